/-
 SyZ, SyV, TrC, TrF, TrG, TrH, TrW, TrI, CvA, CvB, CvC, CvD, CvE, one text.
-/
import Derived.Test.YtocnofkagckhkaaGreatDoorKbe
import Derived.Lib.ItoaNum
import Derived.Lib.Atoi
set_option linter.unusedSectionVars false
set_option linter.unusedVariables false
set_option linter.unusedSimpArgs false
section
namespace Go.Sy
variable [Drw]
section
variable {P : Program} {lay : Lay} {A A' B : St} {Q : Exit -> St -> Prop} {fns : Fns} {o : Nat -> Tag} {h : Nat -> Value} {tm : Array Value} {w : World}
theorem srcOf_upS (hle : St.sub B A) {i : Nat} {x : Operand} {r : CV × Prop} (hr : srcOf B i x = some r) : srcOf A i x = some r := by
 unfold srcOf at hr ⊢
 split at hr
 ·rename_i e; rw [rd_upS hle e]; exact hr
 ·rename_i j p e
  rw [rd_upS hle e]
  dsimp only
  split at hr
  ·rename_i e2
   rw [hle.rs _ _ e2]; exact hr
  ·cases hr
 ·cases hr
theorem evA_up (hle : St.sub B A) {op : Oper} {d : Nat} (hd : op.dst = some d) (hf : freshB A d = true) {n : Nat} {sl : List (Nat × SV)} {r1 r2 : Nat × Res} {rs : List (Nat × Res)} {φ : Prop} (he : evA lay B op = some (⟨n, sl, r1 :: r2 :: rs⟩, φ)) :
  evA lay A op = some (⟨A.n, (d, .e (.r d)) :: A.sl, r1 :: r2 :: A.rs⟩, φ) := by
 unfold evA at he ⊢
 split at he
 ·rename_i c d' ho hd'
  rw [hd] at hd'
  cases hd'
  try simp only [ho, hd]
  split at he
  ·rename_i s x t t' e1 e2 e3
   try simp only [e1, e2, e3]
   split at he
   ·rename_i sz ag E es bytes zz f1 f2 f3 f4
    rw [hle.n] at f3
    try simp only [f1, f2, f3, hf]
    split at he
    ·rename_i i p rE g1 g2
     try simp only [rd_upS hle g1, g2]
     split at he
     ·rename_i E' X Y q k1 k2
      try simp only [hle.rs _ _ k1, srcOf_upS hle k2]
      split at he
      ·rename_i nn kk f m k' g
       split at he
       ·rename_i m1 m2 m3
        try simp only [m1, m2, m3]
        simp only [Option.some.injEq, Prod.mk.injEq, St.mk.injEq, List.cons.injEq] at he
        obtain ⟨⟨_, _, hr1, hr2, _⟩, hφ⟩ := he
        simp only [<-hr1, <-hr2, <-hφ]
       ·cases he
      ·cases he
     ·cases he
    ·rename_i p rE g1 g2
     try simp only [rd_upS hle g1, g2]
     split at he
     ·rename_i Y q k1
      try simp only [srcOf_upS hle k1]
      split at he
      ·rename_i m k' g
       split at he
       ·rename_i m1
        try simp only [m1]
        simp only [Option.some.injEq, Prod.mk.injEq, St.mk.injEq, List.cons.injEq] at he
        obtain ⟨⟨_, _, hr1, hr2, _⟩, hφ⟩ := he
        simp only [<-hr1, <-hr2, <-hφ]
       ·cases he
      ·cases he
     ·cases he
    ·cases he
   ·cases he
  ·cases he
 ·cases he
theorem evS_up (hle : St.sub B A) {op : Oper} {n : Nat} {sl : List (Nat × SV)} {r : Nat × Res} {rs : List (Nat × Res)} {φ : Prop} (he : evS lay B op = some (⟨n, sl, r :: rs⟩, φ)) : evS lay A op = some (⟨A.n, A.sl, r :: A.rs⟩, φ) := by
 have partE_up : ∀ {x : Operand} {r : List EV × Prop}, partE B x = some r -> partE A x = some r := by
  intro x r hr
  unfold partE at hr ⊢
  split at hr
  ·rename_i e; rw [rd_upS hle e]; exact hr
  ·rename_i e; rw [rd_upS hle e]; exact hr
  ·rename_i j p e
   rw [rd_upS hle e]
   dsimp only
   split at hr
   ·rename_i e2; rw [hle.rs _ _ e2]; exact hr
   ·rename_i e2; rw [hle.rs _ _ e2]; exact hr
   ·cases hr
  ·rename_i e; rw [rd_upS hle e]; exact hr
  ·cases hr
 unfold evS at he ⊢
 split at he
 ·rename_i T a x ho hd
  try simp only [ho, hd]
  split at he
  ·rename_i rT i p e1 e2
   try simp only [e1, rd_upS hle e2]
   split at he
   ·rename_i T' cs bk xs p' e3 e4
    try simp only [hle.rs _ _ e3, partE_up e4]
    split at he
    ·rename_i e5 e6
     try simp only [e5, e6]
     simp only [Option.some.injEq, Prod.mk.injEq, St.mk.injEq, List.cons.injEq] at he
     obtain ⟨⟨_, _, hr, _⟩, hφ⟩ := he
     simp only [<-hr, <-hφ]
    ·cases he
   ·cases he
  ·rename_i rT i k e q p e1 e2
   try simp only [e1, rd_upS hle e2]
   split at he
   ·rename_i T' cs bk e3
    try simp only [hle.rs _ _ e3]
    split at he
    ·rename_i xs p' e4
     try simp only [partE_up e4]
     split at he
     ·rename_i e5 e6
      try simp only [e5, e6]
      simp only [Option.some.injEq, Prod.mk.injEq, St.mk.injEq, List.cons.injEq] at he
      obtain ⟨⟨_, _, hr, _⟩, hφ⟩ := he
      simp only [<-hr, <-hφ]
     ·cases he
    ·cases he
   ·rename_i E X e3
    try simp only [hle.rs _ _ e3]
    split at he
    ·rename_i n' k' f xs p' e4
     try simp only [partC_up hle e4]
     split at he
     ·rename_i e5 e6 e7
      try simp only [e5, e6, e7]
      simp only [Option.some.injEq, Prod.mk.injEq, St.mk.injEq, List.cons.injEq] at he
      obtain ⟨⟨_, _, hr, _⟩, hφ⟩ := he
      simp only [<-hr, <-hφ]
     ·cases he
    ·cases he
   ·cases he
  ·cases he
 ·cases he
def stepS (lay : Lay) (B : St) (i0 : Nat) (op : Oper) : Option (List (Nat × SV) × List (Nat × Res) × Prop) :=
 match op.guard, op.dst with
 | none, some d => match evA lay B op with
   | some (⟨_, _, (d1, r1) :: (i1, .gone) :: _⟩, φ) => match Nat.beq d1 d, Nat.beq i1 i0 with
     | true, true => some ([(d, .e (.r d))], [(d, r1), (i0, .gone)], φ)
     | _, _ => none
   | _ => none
 | none, none => match evS lay B op with
   | some (⟨_, _, (i1, r1) :: _⟩, φ) => match Nat.beq i1 i0 with
     | true => some ([], [(i0, r1)], φ)
     | false => none
   | _ => none
 | _, _ => none
theorem stepS_shape {i0 : Nat} {op : Oper} {ys : List (Nat × SV)} {rn : List (Nat × Res)} {φ : Prop} (hc : stepS lay B i0 op = some (ys, rn, φ)) : op.guard = none /\
  ((∃ d r1, op.dst = some d /\ ys = [(d, .e (.r d))] /\ rn = [(d, r1), (i0, .gone)] /\ ∃ n sl rs, evA lay B op = some (⟨n, sl, (d, r1) :: (i0, .gone) :: rs⟩, φ)) ∨
    (∃ r1, op.dst = none /\ ys = [] /\ rn = [(i0, r1)] /\ ∃ n sl rs, evS lay B op = some (⟨n, sl, (i0, r1) :: rs⟩, φ))) := by
 unfold stepS at hc
 split at hc
 ·rename_i d hg hd
  refine ⟨hg, .inl ?_⟩
  split at hc
  ·rename_i n sl d1 r1 i1 rs φ' he
   split at hc
   ·rename_i h1 h2
    obtain rfl := Nat.eq_of_beq_eq_true h1
    obtain rfl := Nat.eq_of_beq_eq_true h2
    simp only [Option.some.injEq, Prod.mk.injEq] at hc
    obtain ⟨rfl, rfl, rfl⟩ := hc
    exact ⟨d1, r1, hd, rfl, rfl, n, sl, rs, he⟩
   ·cases hc
  ·cases hc
 ·rename_i hg hd
  refine ⟨hg, .inr ?_⟩
  split at hc
  ·rename_i n sl i1 r1 rs φ' he
   split at hc
   ·rename_i h2
    obtain rfl := Nat.eq_of_beq_eq_true h2
    simp only [Option.some.injEq, Prod.mk.injEq] at hc
    obtain ⟨rfl, rfl, rfl⟩ := hc
    exact ⟨r1, hd, rfl, rfl, n, sl, rs, he⟩
   ·cases hc
  ·cases hc
 ·cases hc
theorem stepS_wp (hl : LayOk P lay) {ops : Array Oper} {i i0 : Nat} {op : Oper} (hi : ops[i]? = some op) {ys : List (Nat × SV)} {rn : List (Nat × Res)} {φ : Prop} (hle : St.sub B A) (hs : Sat o h A tm w)
  (hc : stepS lay B i0 op = some (ys, rn, φ)) (hφ : φ) (hfr : ∀ d y, (d, y) ∈ ys -> freshB A d = true) {K : Act -> World -> Prop} {QQ : Exit -> Act -> World -> Prop}
  (hn : ∀ o2 h2 tm2 w1, Sat o2 h2 ⟨A.n, ys ++ A.sl, rn ++ A.rs⟩ tm2 w1 -> Ext o w o2 w1 -> K ⟨tm2, []⟩ w1) : wpOp P ops QQ i K ⟨tm, []⟩ w := by
 obtain ⟨hg, ⟨d, r1, hd, rfl, rfl, n, sl, rs, he⟩ | ⟨r1, hd, rfl, rfl, n, sl, rs, he⟩⟩ := stepS_shape hc
 ·obtain ⟨x, v, w', o', h', hr, hx, hs', hext⟩ := evA_ok hl (evA_up hle hd (hfr d _ (.head _)) he) hφ o h tm w hs
  unfold wpOp
  simp only [hi]
  rw [if_pos (by simp [Region.wanted, hg])]
  left
  unfold Oper.wp
  show op.upon P ⟨tm, []⟩ _ _ ((execOp (evl tm) op).run P w)
  rw [hr]
  have hput : ∀ v, (⟨tm, []⟩ : Act).put op.dst v = ⟨tm.setIfInBounds d v, []⟩ := fun v => by simp [Act.put, hd]
  rw [hput] at hs'
  rcases hx with rfl | ⟨rfl, rfl⟩
  ·show K ((⟨tm, []⟩ : Act).put op.dst v) w'
   rw [hput]
   exact hn o' h' _ w' hs' hext
  ·show K ((⟨tm, []⟩ : Act).put op.dst undef) w'
   rw [hput]
   exact hn o' h' _ w' hs' hext
 ·obtain ⟨x, v, w', o', h', hr, hx, hs', hext⟩ := evS_ok hl (evS_up hle he) hφ o h tm w hs
  unfold wpOp
  simp only [hi]
  rw [if_pos (by simp [Region.wanted, hg])]
  left
  unfold Oper.wp
  show op.upon P ⟨tm, []⟩ _ _ ((execOp (evl tm) op).run P w)
  rw [hr]
  have hput : ∀ v, (⟨tm, []⟩ : Act).put op.dst v = ⟨tm, []⟩ := fun v => by simp [Act.put, hd]
  rw [hput] at hs'
  rcases hx with rfl | ⟨rfl, rfl⟩
  ·show K ((⟨tm, []⟩ : Act).put op.dst v) w'
   rw [hput]
   exact hn o' h' _ w' hs' hext
  ·show K ((⟨tm, []⟩ : Act).put op.dst undef) w'
   rw [hput]
   exact hn o' h' _ w' hs' hext
def isBS : Op -> Bool
 | .buildSlice _ _ _ => true
 | _ => false
def stepZ (lay : Lay) (fns : Fns) (B : St) (ops : Array Oper) (op : Oper) (i0 : Nat) : Option (SV × List (Nat × Res) × Prop) :=
 match isBS op.op && !(match op.dst with | some d => Nat.beq d i0 | none => false) with
 | false => stepX lay fns B ops op
 | true => match op.guard, op.dst, evE lay B op with
   | none, some d, some (⟨_, _, (k, .own _ x) :: _⟩, φ) => match isSl x, Nat.beq k d with
     | true, true => some (.e (.c x), [(d, .gone)], φ)
     | _, _ => none
   | _, _, _ => none
theorem stepZ_shape {B : St} {ops : Array Oper} {op : Oper} {i0 : Nat} {y : SV} {rn : List (Nat × Res)} {φ : Prop} {d : Nat} (hd : op.dst = some d) (hc : stepZ lay fns B ops op i0 = some (y, rn, φ)) : rn = [] ∨ ∃ r, rn = [(d, r)] := by
 unfold stepZ at hc
 split at hc
 ·unfold stepX at hc
  split at hc
  ·simp only [Option.some.injEq, Prod.mk.injEq] at hc
   exact .inl hc.2.1.symm
  ·split at hc
   ·rename_i d2 n2 sl2 k2 r2 l2 φ2 _ _ hd2 _
    simp only [Option.some.injEq, Prod.mk.injEq] at hc
    rw [hd] at hd2
    cases hd2
    exact .inr ⟨_, hc.2.1.symm⟩
   ·cases hc
 ·split at hc
  ·rename_i d2 _ _ _ _ _ _ _ _ hd2 _
   rw [hd] at hd2
   cases hd2
   split at hc
   ·simp only [Option.some.injEq, Prod.mk.injEq] at hc
    exact .inr ⟨_, hc.2.1.symm⟩
   ·cases hc
  ·cases hc
theorem stepZ_wp (hl : LayOk P lay) (hT : FnsOk P fns) {ops : Array Oper} {i : Nat} {op : Oper} (hi : ops[i]? = some op) {i0 : Nat} {y : SV} {rn : List (Nat × Res)} {φ : Prop} {d : Nat} (hle : St.sub B A) (hs : Sat o h A tm w) (hd : op.dst = some d) (hlt : Nat.blt d A.n = true)
  (hc : stepZ lay fns B ops op i0 = some (y, rn, φ)) (hφ : φ) (hfr : rn ≠ [] -> freshB A d = true) {K : Act -> World -> Prop} {QQ : Exit -> Act -> World -> Prop}
  (hn : ∀ o2 h2 v w1, Sat o2 h2 ⟨A.n, (d, y) :: A.sl, rn ++ A.rs⟩ (tm.setIfInBounds d v) w1 -> Ext o w o2 w1 -> K ⟨tm.setIfInBounds d v, []⟩ w1) : wpOp P ops QQ i K ⟨tm, []⟩ w := by
 unfold stepZ at hc
 split at hc
 ·exact stepX_wp hl hT hi hle hs hd hlt hc hφ hfr hn
 ·rename_i hbs0
  have hbs : isBS op.op = true := by
   rw [Bool.and_eq_true] at hbs0
   exact hbs0.1
  clear hbs0
  split at hc
  ·rename_i d' n2 sl2 k2 E2 x rs2 φ2 hg hd2 hE
   rw [hd] at hd2
   cases hd2
   split at hc
   ·rename_i hsl hkd
    simp only [Option.some.injEq, Prod.mk.injEq] at hc
    obtain ⟨rfl, rfl, rfl⟩ := hc
    obtain rfl := Nat.eq_of_beq_eq_true hkd
    obtain ⟨n3, k3, f3, rfl⟩ := isSl_ok hsl
    have hnew : isNew op.op = true := by cases hop : op.op <;> rw [hop] at hbs <;> simp [isBS] at hbs <;> rfl
    have hA := evE_up hle hd hnew (hfr (by simp)) hE
    obtain ⟨x, v, w', o', h', hr, hx, hs', hext⟩ := evE_ok hl hA hφ o h tm w hs
    have hput : ∀ v, (⟨tm, []⟩ : Act).put op.dst v = ⟨tm.setIfInBounds k2 v, []⟩ := fun v => by simp [Act.put, hd]
    rw [hput] at hs'
    obtain ⟨g1, g2⟩ := hs'.frz (i := k2) (E := E2) (n := n3) (k := k3) (f := f3) (by rw [lk_cons, if_pos rfl]) (ss := [k2]) (by simp [allR, lk_cons])
    have hs2 : Sat (frzO o' k2) h' ⟨A.n, (k2, .e (.c (.sl n3 k3 f3))) :: A.sl, [(k2, .gone)] ++ A.rs⟩ (tm.setIfInBounds k2 v) w' := by
     refine ⟨g1.size, g1.tags, fun s z hl => g1.slot s z ?_, fun j r hl => g1.res j r ?_⟩
     ·simp only [pushC] at hl ⊢
      rw [lk_cons] at hl ⊢
      split at hl
      ·rename_i e; rw [if_pos e]; exact hl
      ·rename_i e; rw [if_neg e, lk_cons, if_neg e]; exact hl
     ·simp only [List.cons_append, List.nil_append] at hl ⊢
      rw [lk_cons] at hl ⊢
      split at hl
      ·rename_i e; rw [if_pos e]; exact hl
      ·rename_i e; rw [if_neg e, lk_cons, if_neg e]; exact hl
    unfold wpOp
    simp only [hi]
    rw [if_pos (by simp [Region.wanted, hg])]
    left
    unfold Oper.wp
    show op.upon P ⟨tm, []⟩ _ _ ((execOp (evl tm) op).run P w)
    rw [hr]
    rcases hx with rfl | ⟨rfl, rfl⟩
    ·show K ((⟨tm, []⟩ : Act).put op.dst v) w'
     rw [hput]
     exact hn _ h' v w' hs2 (hext.trans g2)
    ·show K ((⟨tm, []⟩ : Act).put op.dst undef) w'
     rw [hput]
     exact hn _ h' undef w' hs2 (hext.trans g2)
   ·cases hc
  ·cases hc
def pickL {α : Type} (ls : Nat -> Bool) : Nat -> List (List (Nat × α)) -> List (Nat × α)
 | _, [] => []
 | k, p :: l => (if ls k then p else []) ++ pickL ls (k + 1) l
theorem lkA_none {α : Type} {l base : List (Nat × α)} {i : Nat} (h : ∀ r, (i, r) ∉ l) : lk (l ++ base) i = lk base i := by
 induction l with
 | nil => rfl
 | cons p l ih =>
   obtain ⟨k, r⟩ := p
   rw [List.cons_append, lk_cons, if_neg (fun e => h r (by rw [<-e]; exact .head _)), ih fun r' hr => h r' (.tail _ hr)]
theorem lkA_some {α : Type} {l base : List (Nat × α)} {t : Nat} {r : α} (h : lk l t = some r) : lk (l ++ base) t = some r := by
 induction l with
 | nil => simp [lk] at h
 | cons q l ih =>
   rw [List.cons_append, lk_cons]
   rw [lk_cons] at h
   split
   ·rename_i e; rw [if_pos e] at h; exact h
   ·rename_i e; rw [if_neg e] at h; exact ih h
theorem lkA_of {α : Type} {l : List (Nat × α)} {t : Nat} {r : α} (h : (t, r) ∈ l) : ∃ r', lk l t = some r' := by
 induction l with
 | nil => cases h
 | cons q l ih =>
   rw [lk_cons]
   split
   ·exact ⟨_, rfl⟩
   ·rename_i hne
    rcases List.mem_cons.1 h with e | e
    ·rw [<-e] at hne; exact absurd rfl hne
    ·exact ih e
theorem pickL_mem {α : Type} {ls : Nat -> Bool} {t : Nat} {r : α} : ∀ {ps : List (List (Nat × α))} {k : Nat}, (t, r) ∈ pickL ls k ps -> ∃ (j : Nat) (p : List (Nat × α)), ps[j]? = some p /\ ls (k + j) = true /\ (t, r) ∈ p
 | [], k, h => by simp [pickL] at h
 | p :: l, k, h => by
   simp only [pickL, List.mem_append] at h
   rcases h with h | h
   ·split at h
    ·rename_i hk; exact ⟨0, p, rfl, hk, h⟩
    ·cases h
   ·obtain ⟨j, p', h1, h2, h3⟩ := pickL_mem h
    exact ⟨j + 1, p', by simpa using h1, by rw [show k + (j + 1) = k + 1 + j by omega]; exact h2, h3⟩
theorem pickL_in {α : Type} {ls : Nat -> Bool} {base : List (Nat × α)} {t : Nat} {r : α} : ∀ {ps : List (List (Nat × α))} {k i : Nat} {p : List (Nat × α)}, ps[i]? = some p -> ls (k + i) = true -> lk p t = some r ->
  (∀ (j : Nat) (p' : List (Nat × α)), j ≠ i -> ps[j]? = some p' -> ∀ r', (t, r') ∉ p') -> lk (pickL ls k ps ++ base) t = some r
 | [], k, i, p, h, _, _, _ => by simp at h
 | q :: l, k, 0, p, h, hl, hr, hu => by
   simp at h
   subst h
   simp only [Nat.add_zero] at hl
   simp only [pickL, hl, if_true, List.append_assoc]
   exact lkA_some hr
 | q :: l, k, i + 1, p, h, hl, hr, hu => by
   have ih := pickL_in (base := base) (ps := l) (k := k + 1) (i := i) (by simpa using h) (by rw [show k + 1 + i = k + (i + 1) by omega]; exact hl) hr fun j p' hj hp => hu (j + 1) p' (by omega) (by simpa using hp)
   simp only [pickL, List.append_assoc]
   rw [lkA_none fun r' hm => ?_]
   ·exact ih
   ·split at hm
    ·exact hu 0 q (by omega) rfl r' hm
    ·cases hm
theorem pickL_out {α : Type} {ls : Nat -> Bool} {base : List (Nat × α)} {ps : List (List (Nat × α))} {t : Nat} (hu : ∀ (j : Nat) (p : List (Nat × α)), ps[j]? = some p -> ls j = true -> ∀ r, (t, r) ∉ p) : lk (pickL ls 0 ps ++ base) t = lk base t :=
 lkA_none fun r hm => by
  obtain ⟨j, p, h1, h2, h3⟩ := pickL_mem hm
  exact hu j p h1 (by simpa using h2) r h3
theorem pickL_none {α : Type} {ls : Nat -> Bool} (h : ∀ j, ls j = false) : ∀ {ps : List (List (Nat × α))} {k : Nat}, pickL ls k ps = []
 | [], _ => rfl
 | p :: l, k => by simp [pickL, h k, pickL_none h]
def ApartL {α : Type} (ps : List (List (Nat × α))) : Prop := ∀ (i j : Nat) (p p' : List (Nat × α)), i ≠ j -> ps[i]? = some p -> ps[j]? = some p' -> ∀ t r r', (t, r) ∈ p -> (t, r') ∉ p'
theorem pickL_step {α : Type} {ls ls' : Nat -> Bool} {base : List (Nat × α)} {p : List (Nat × α)} {ps : List (List (Nat × α))} {i : Nat} (hk : ApartL ps) (h : ps[i]? = some p) (hi : ls' i = true) (hl : ∀ j, j ≠ i -> ls' j = ls j) {t : Nat} {r : α} (hr : lk (pickL ls' 0 ps ++ base) t = some r) :
  lk (p ++ (pickL ls 0 ps ++ base)) t = some r := by
 by_cases hm : ∃ r0, (t, r0) ∈ p
 ·obtain ⟨r0, hm⟩ := hm
  obtain ⟨r1, h1⟩ := lkA_of hm
  have := pickL_in (base := base) (k := 0) h (by simpa using hi) h1 fun j p' hj hp r' => hk i j p p' (Ne.symm hj) h hp t r0 r' hm
  rw [this] at hr
  cases hr
  exact lkA_some h1
 ·rw [lkA_none fun r0 hm' => hm ⟨r0, hm'⟩]
  by_cases hx : ∃ (j : Nat) (q : List (Nat × α)), ps[j]? = some q /\ ls' j = true /\ ∃ r0, (t, r0) ∈ q
  ·obtain ⟨j, q, hj, hlj, r0, hq⟩ := hx
   have hji : j ≠ i := by rintro rfl; rw [h] at hj; cases hj; exact hm ⟨r0, hq⟩
   obtain ⟨r1, h1⟩ := lkA_of hq
   have e1 := pickL_in (base := base) (k := 0) hj (by simpa using hlj) h1 fun j' p' hj' hp r' => hk j j' q p' (Ne.symm hj') hj hp t r0 r' hq
   rw [e1] at hr
   cases hr
   exact pickL_in (k := 0) hj (by simpa using (hl j hji) ▸ hlj) h1 fun j' p' hj' hp r' => hk j j' q p' (Ne.symm hj') hj hp t r0 r' hq
  ·rw [pickL_out fun j q hj hlj r0 hq => hx ⟨j, q, hj, hlj, r0, hq⟩] at hr
   rw [pickL_out fun j q hj hlj r0 hq => hx ⟨j, q, hj, by
    by_cases hji : j = i
    ·subst hji; exact hi
    ·rw [hl j hji]; exact hlj, r0, hq⟩]
   exact hr
theorem lkM {α : Type} : ∀ {l : List (Nat × α)} {i : Nat} {r : α}, lk l i = some r -> (i, r) ∈ l
 | [], _, _, h => by simp [lk] at h
 | (j, x) :: l, i, r, h => by
   rw [lk_cons] at h
   split at h
   ·rename_i e; subst e; cases h; exact .head _
   ·exact .tail _ (lkM h)
abbrev Ent := List (Nat × SV) × List (Nat × Res)
def pickR (rn : List (Nat × Res)) (ts : List Nat) : List (Nat × Res) := rn.filter fun p => memN p.1 ts
def without (i0 : Nat) (rs : List (Nat × Res)) : List (Nat × Res) := rs.filter fun p => !Nat.beq p.1 i0
theorem without_lk {i0 : Nat} : ∀ {rs : List (Nat × Res)} {i : Nat} {r : Res}, lk (without i0 rs) i = some r -> lk rs i = some r /\ i ≠ i0
 | [], i, r, h => by simp [without, lk] at h
 | p :: rs, i, r, h => by
   unfold without at h
   rw [List.filter_cons] at h
   split at h
   ·rename_i hp
    rw [lk_cons] at h ⊢
    split at h
    ·rename_i e
     rw [if_pos e]
     refine ⟨h, fun e2 => ?_⟩
     rw [e, e2] at hp; simp at hp
    ·rename_i e
     rw [if_neg e]
     exact without_lk h
   ·rename_i hp
    obtain ⟨h1, h2⟩ := without_lk h
    refine ⟨?_, h2⟩
    rw [lk_cons, if_neg]
    ·exact h1
    ·intro e
     have : p.1 = i0 := by
      simp only [Bool.not_eq_true', Bool.not_eq_false] at hp
      exact Nat.eq_of_beq_eq_true (by simpa using hp)
     exact h2 (e ▸ this)
def waitsFor (ops : Array Oper) : Nat -> Nat -> Nat -> Bool
 | 0, _, _ => false
 | f + 1, s, i => match ops[s]? with
   | some op => anyE op.after.toList i || op.after.toList.any fun e => Region.binds .any e && waitsFor ops f e.on i
   | none => false
def bindsOn (ops : Array Oper) (s i : Nat) : Bool := waitsFor ops 2 s i
theorem waitsFor_ok {ops : Array Oper} {ls : Nat -> Bool} (hcl : ∀ (i : Nat) oi, ops[i]? = some oi -> ls i = true -> ∀ e ∈ oi.after, Region.binds .any e = true -> ls e.on = true) : ∀ {f s i : Nat}, waitsFor ops f s i = true -> ls s = true -> ls i = true
 | 0, _, _, h, _ => by cases h
 | f + 1, s, i, h, hs => by
   unfold waitsFor at h
   split at h
   ·rename_i op ho
    rw [Bool.or_eq_true] at h
    rcases h with h | h
    ·obtain ⟨e, he, h1, h2⟩ := anyE_ok h
     rw [<-h2]; exact hcl s op ho hs e (by simpa using he) h1
    ·rw [List.any_eq_true] at h
     obtain ⟨e, he, h1⟩ := h
     rw [Bool.and_eq_true] at h1
     exact waitsFor_ok hcl h1.2 (hcl s op ho hs e (by simpa using he) h1.1)
   ·cases h
def drawV (lay : Lay) (fns : Fns) (ops : Array Oper) (rs0 rs1 : List (Nat × Res)) (n s i0 : Nat) : List Oper -> Nat -> List (Nat × SV) -> List (Nat × Res) -> Prop -> Option (List Ent × List (Nat × Res) × Prop)
 | [], _, _, _, φ => some ([], [], φ)
 | op :: l, i, sl, acc, φ => match Nat.beq i s with
   | true => match stepS lay ⟨n, pickS sl (looks ops op), pickR acc (looks ops op) ++ rs0⟩ i0 op with
     | some (ys, rn, ψ) => match drawV lay fns ops rs0 rs1 n s i0 l (i + 1) (ys ++ sl) acc (φ /\ ψ) with
       | some (ps, _, χ) => some ((ys, []) :: ps, rn, χ)
       | none => none
     | none => none
   | false => match op.dst with
     | some d => match Nat.blt d n, stepZ lay fns ⟨n, pickS sl (looks ops op), bif bindsOn ops s i then rs0 else rs1⟩ ops op i0 with
       | true, some (y, rn, ψ) => match drawV lay fns ops rs0 rs1 n s i0 l (i + 1) ((d, y) :: sl) (acc ++ rn) (φ /\ ψ) with
         | some (ps, sp, χ) => some (([(d, y)], rn) :: ps, sp, χ)
         | none => none
       | _, _ => none
     | none => none
def slotsE (ps : List Ent) : List (Nat × SV) := (ps.map (·.1)).reverse.flatten
def memE (ps : List Ent) : List (Nat × Res) := (ps.map (·.2)).flatten
theorem slotsE_cons (p : Ent) (ps : List Ent) (sl : List (Nat × SV)) : slotsE (p :: ps) ++ sl = slotsE ps ++ (p.1 ++ sl) := by simp [slotsE]
theorem memE_cons (p : Ent) (ps : List Ent) (acc : List (Nat × Res)) : acc ++ memE (p :: ps) = (acc ++ p.2) ++ memE ps := by simp [memE]
theorem drawV_spec {ops : Array Oper} {rs0 rs1 : List (Nat × Res)} {n s i0 : Nat} : ∀ {l : List Oper} {k : Nat} {sl : List (Nat × SV)} {acc : List (Nat × Res)} {prs : List Ent} {sp : List (Nat × Res)} {φ φ' : Prop}, drawV lay fns ops rs0 rs1 n s i0 l k sl acc φ = some (prs, sp, φ') -> φ' -> φ /\ prs.length = l.length /\
  ∀ (i : Nat) op, l[i]? = some op -> if k + i = s then ∃ ys ψ, prs[i]? = some (ys, []) /\ stepS lay ⟨n, pickS (slotsE (prs.take i) ++ sl) (looks ops op), pickR (acc ++ memE (prs.take i)) (looks ops op) ++ rs0⟩ i0 op = some (ys, sp, ψ) /\ ψ
    else ∃ d y rn ψ, prs[i]? = some ([(d, y)], rn) /\ op.dst = some d /\ Nat.blt d n = true /\ stepZ lay fns ⟨n, pickS (slotsE (prs.take i) ++ sl) (looks ops op), bif bindsOn ops s (k + i) then rs0 else rs1⟩ ops op i0 = some (y, rn, ψ) /\ ψ
 | [], k, sl, acc, prs, sp, φ, φ', h, hφ => by
   simp only [drawV, Option.some.injEq, Prod.mk.injEq] at h
   obtain ⟨rfl, rfl, rfl⟩ := h
   exact ⟨hφ, rfl, by simp⟩
 | op :: l, k, sl, acc, prs, sp, φ, φ', h, hφ => by
   simp only [drawV] at h
   split at h
   ·rename_i hks
    have hks := Nat.eq_of_beq_eq_true hks
    split at h
    ·rename_i ys rn ψ hs
     split at h
     ·rename_i ps sp' χ hrec
      simp only [Option.some.injEq, Prod.mk.injEq] at h
      obtain ⟨rfl, rfl, rfl⟩ := h
      obtain ⟨h1, h2, h4⟩ := drawV_spec hrec hφ
      refine ⟨h1.1, by simp [h2], fun i op' hi => ?_⟩
      cases i with
      | zero =>
        simp at hi; subst hi
        rw [if_pos (by omega)]
        exact ⟨ys, ψ, rfl, by simpa [slotsE, memE] using hs, h1.2⟩
      | succ i =>
        simp at hi
        have := h4 i op' hi
        rw [show k + (i + 1) = k + 1 + i by omega]
        rw [if_neg (by omega)] at this ⊢
        obtain ⟨d', y', rn', ψ', g1, g2, g3, g4, g5⟩ := this
        refine ⟨d', y', rn', ψ', by simpa using g1, g2, g3, ?_, g5⟩
        rw [List.take_succ_cons, slotsE_cons]; exact g4
     ·cases h
    ·cases h
   ·rename_i hks
    have hks : k ≠ s := fun e => by rw [e] at hks; simp at hks
    split at h
    ·rename_i d hd
     split at h
     ·rename_i y rn ψ hlt hs
      split at h
      ·rename_i ps sp' χ hrec
       simp only [Option.some.injEq, Prod.mk.injEq] at h
       obtain ⟨rfl, rfl, rfl⟩ := h
       obtain ⟨h1, h2, h4⟩ := drawV_spec hrec hφ
       refine ⟨h1.1, by simp [h2], fun i op' hi => ?_⟩
       cases i with
       | zero =>
         simp at hi; subst hi
         rw [if_neg (by omega)]
         exact ⟨d, y, rn, ψ, by simp, hd, hlt, by simpa [slotsE] using hs, h1.2⟩
       | succ i =>
         simp at hi
         have := h4 i op' hi
         rw [show k + (i + 1) = k + 1 + i by omega]
         split
         ·rename_i e
          rw [if_pos e] at this
          obtain ⟨ys', ψ', g1, g2, g3⟩ := this
          refine ⟨ys', ψ', by simpa using g1, ?_, g3⟩
          rw [List.take_succ_cons, slotsE_cons, memE_cons]; exact g2
         ·rename_i e
          rw [if_neg e] at this
          obtain ⟨d', y', rn', ψ', g1, g2, g3, g4, g5⟩ := this
          refine ⟨d', y', rn', ψ', by simpa using g1, g2, g3, ?_, g5⟩
          rw [List.take_succ_cons, slotsE_cons]; exact g4
      ·cases h
     ·cases h
    ·cases h
def menL (d : Nat) : List (Nat × SV) -> Bool
 | [] => false
 | p :: l => p.2.men d || menL d l
theorem menL_ok {d : Nat} : ∀ {l : List (Nat × SV)}, menL d l = false -> ∀ t x, (t, x) ∈ l -> x.men d = false
 | [], _, t, x, h => by cases h
 | p :: l, hf, t, x, h => by
   simp only [menL, Bool.or_eq_false_iff] at hf
   rcases List.mem_cons.1 h with e | e
   ·rw [<-e] at hf; exact hf.1
   ·exact menL_ok hf.2 t x e
def freshE (ops : Array Oper) (d j : Nat) : Nat -> List Ent -> Bool
 | _, [] => true
 | k, p :: l => (Nat.beq k j || (bindsOn ops k j || (!menL d p.1 && freshR d p.2))) && freshE ops d j (k + 1) l
theorem freshE_ok {ops : Array Oper} {d j : Nat} : ∀ {l : List Ent} {k : Nat}, freshE ops d j k l = true -> ∀ (i : Nat) (p : Ent), l[i]? = some p -> k + i ≠ j -> bindsOn ops (k + i) j = false -> menL d p.1 = false /\ freshR d p.2 = true
 | [], _, _, i, p, h, _, _ => by simp at h
 | q :: l, k, hf, i, p, h, hne, hnb => by
   simp only [freshE, Bool.and_eq_true, Bool.or_eq_true, Bool.not_eq_true'] at hf
   cases i with
   | zero =>
     simp at h
     subst h
     rcases hf.1 with h1 | h1 | h1
     ·exact absurd (Nat.eq_of_beq_eq_true h1) (by simpa using hne)
     ·rw [Nat.add_zero, h1] at hnb; cases hnb
     ·exact h1
   | succ i => exact freshE_ok hf.2 i p (by simpa using h) (by omega) (by rw [show k + 1 + i = k + (i + 1) by omega]; exact hnb)
def freshV1 (ops : Array Oper) (prs : List Ent) (sp : List (Nat × Res)) (A : St) (s i0 : Nat) : Nat -> List Ent -> Bool
 | _, [] => true
 | j, (ys, rn) :: l => (match ys with
   | [] => true
   | (d, _) :: _ => match Nat.beq j s, rn with
     | true, _ => freshE ops d j 0 prs && (freshS d A.sl && freshR d A.rs)
     | false, [] => true
     | false, _ => freshE ops d j 0 prs && (freshS d A.sl && freshR d A.rs) && (Nat.beq d i0 || freshR d sp)) && freshV1 ops prs sp A s i0 (j + 1) l
theorem freshV1_ok {ops : Array Oper} {prs : List Ent} {sp : List (Nat × Res)} {A : St} {s i0 : Nat} : ∀ {l : List Ent} {k : Nat}, freshV1 ops prs sp A s i0 k l = true -> ∀ (i d : Nat) (y : SV) (ys : List (Nat × SV)) (rn : List (Nat × Res)), l[i]? = some ((d, y) :: ys, rn) -> k + i = s ∨ rn ≠ [] -> freshE ops d (k + i) 0 prs = true /\ (freshS d A.sl = true /\ freshR d A.rs = true) /\ (k + i ≠ s -> d = i0 ∨ freshR d sp = true)
 | [], _, _, i, d, y, ys, rn, h, _ => by simp at h
 | (qs, qn) :: l, k, hf, i, d, y, ys, rn, h, hne => by
   simp only [freshV1, Bool.and_eq_true] at hf
   cases i with
   | zero =>
     simp at h
     obtain ⟨rfl, rfl⟩ := h
     have h1 := hf.1
     simp only [Nat.add_zero] at hne ⊢
     dsimp only at h1
     split at h1
     ·rename_i hb
      simp only [Bool.and_eq_true] at h1
      exact ⟨h1.1, h1.2, fun e => absurd (Nat.eq_of_beq_eq_true hb) e⟩
     ·rename_i hb
      rcases hne with e | e
      ·rw [e] at hb; simp at hb
      ·exact absurd rfl e
     ·simp only [Bool.and_eq_true, Bool.or_eq_true] at h1
      exact ⟨h1.1.1, h1.1.2, fun _ => h1.2.imp Nat.eq_of_beq_eq_true id⟩
   | succ i =>
     have := freshV1_ok hf.2 i d y ys rn (by simpa using h) (by rcases hne with e | e; exact .inl (by omega); exact .inr e)
     rwa [show k + 1 + i = k + (i + 1) by omega] at this
theorem memN_no {t : Nat} : ∀ {l : List Nat}, t ∉ l -> memN t l = false
 | [], _ => rfl
 | a :: l, h => by
   simp only [memN, Bool.or_eq_false_iff]
   refine ⟨?_, memN_no fun h' => h (.tail _ h')⟩
   cases hb : Nat.beq a t with
   | false => rfl
   | true => exact absurd (by rw [Nat.eq_of_beq_eq_true hb]; exact .head _) h
theorem memN_yes {t : Nat} {l : List Nat} (h : memN t l = true) : t ∈ l := Classical.byContradiction fun hno => by rw [memN_no hno] at h; cases h
theorem drawV_sp {ops : Array Oper} {rs0 rs1 : List (Nat × Res)} {n s i0 : Nat} : ∀ {l : List Oper} {k : Nat} {sl : List (Nat × SV)} {acc : List (Nat × Res)} {prs : List Ent} {sp : List (Nat × Res)} {φ φ' : Prop}, drawV lay fns ops rs0 rs1 n s i0 l k sl acc φ = some (prs, sp, φ') -> k + l.length ≤ s -> sp = []
 | [], k, sl, acc, prs, sp, φ, φ', h, _ => by
   simp only [drawV, Option.some.injEq, Prod.mk.injEq] at h
   exact h.2.1.symm
 | op :: l, k, sl, acc, prs, sp, φ, φ', h, hs => by
   simp only [List.length_cons] at hs
   simp only [drawV] at h
   split at h
   ·rename_i hks
    have hks := Nat.eq_of_beq_eq_true hks
    omega
   ·split at h
    ·split at h
     ·split at h
      ·rename_i ps sp' χ hrec
       simp only [Option.some.injEq, Prod.mk.injEq] at h
       obtain ⟨_, rfl, _⟩ := h
       exact drawV_sp hrec (by omega)
      ·cases h
     ·cases h
    ·cases h
def layBefore (ops : Array Oper) (s i0 n : Nat) : Bool := (List.range n).all fun j => match ops[j]? with
 | some op => match op.dst with
   | some d => !Nat.beq d i0 || (Nat.beq j s || bindsOn ops s j)
   | none => true
 | none => true
theorem layBefore_ok {ops : Array Oper} {s i0 n j : Nat} {op : Oper} (h : layBefore ops s i0 n = true) (hj : j < n) (ho : ops[j]? = some op) (hd : op.dst = some i0) (hne : j ≠ s) : bindsOn ops s j = true := by
 unfold layBefore at h
 rw [List.all_eq_true] at h
 have := h j (List.mem_range.2 hj)
 rw [ho] at this
 simp only [hd, Nat.beq_refl, Bool.not_true, Bool.false_or, Bool.or_eq_true] at this
 rcases this with h1 | h1
 ·exact absurd (Nat.eq_of_beq_eq_true h1) hne
 ·exact h1
theorem lkU {α : Type} {L base : List (Nat × α)} {t : Nat} {y : α} (h : (t, y) ∈ L) (hu : ∀ y', (t, y') ∈ L -> y' = y) : lk (L ++ base) t = some y := by
 obtain ⟨r, hr⟩ := lkA_of h
 have := hu r (lkM hr)
 subst this
 exact lkA_some hr
theorem slotsE_mem {ps : List Ent} {t : Nat} {y : SV} : (t, y) ∈ slotsE ps ↔ ∃ (j : Nat) (p : Ent), ps[j]? = some p /\ (t, y) ∈ p.1 := by
 unfold slotsE
 rw [List.mem_flatten]
 constructor
 ·rintro ⟨l, hl, hm⟩
  rw [List.mem_reverse, List.mem_map] at hl
  obtain ⟨p, hp, rfl⟩ := hl
  obtain ⟨j, hj⟩ := List.mem_iff_getElem?.1 hp
  exact ⟨j, p, hj, hm⟩
 ·rintro ⟨j, p, hj, hm⟩
  exact ⟨p.1, by rw [List.mem_reverse]; exact List.mem_map_of_mem (List.mem_of_getElem? hj), hm⟩
theorem memE_mem {ps : List Ent} {t : Nat} {y : Res} : (t, y) ∈ memE ps ↔ ∃ (j : Nat) (p : Ent), ps[j]? = some p /\ (t, y) ∈ p.2 := by
 unfold memE
 rw [List.mem_flatten]
 constructor
 ·rintro ⟨l, hl, hm⟩
  rw [List.mem_map] at hl
  obtain ⟨p, hp, rfl⟩ := hl
  obtain ⟨j, hj⟩ := List.mem_iff_getElem?.1 hp
  exact ⟨j, p, hj, hm⟩
 ·rintro ⟨j, p, hj, hm⟩
  exact ⟨p.2, List.mem_map_of_mem (List.mem_of_getElem? hj), hm⟩
theorem pickL_all {α : Type} {ls : Nat -> Bool} : ∀ {ps : List (List (Nat × α))} {k : Nat}, (∀ j, j < ps.length -> ls (k + j) = true) -> pickL ls k ps = ps.flatten
 | [], _, _ => rfl
 | p :: l, k, h => by
   have h0 := h 0 (by simp)
   simp only [Nat.add_zero] at h0
   simp only [pickL, h0, if_true, List.flatten_cons]
   rw [pickL_all (ls := ls) (ps := l) (k := k + 1) fun j hj => by
    have := h (j + 1) (by simp; omega)
    rwa [show k + (j + 1) = k + 1 + j by omega] at this]
theorem mapGet {α β : Type} {f : α -> β} {l : List α} {i : Nat} {q : β} (h : (l.map f)[i]? = some q) : ∃ p, l[i]? = some p /\ q = f p := by
 rw [List.getElem?_map] at h
 obtain ⟨p, h1, h2⟩ := Option.map_eq_some_iff.1 h
 exact ⟨p, h1, h2.symm⟩
theorem stepS_keys {i0 : Nat} {op : Oper} {ys : List (Nat × SV)} {rn : List (Nat × Res)} {φ : Prop} (hc : stepS lay B i0 op = some (ys, rn, φ)) : ∀ t r, (t, r) ∈ rn -> t = i0 ∨ ∃ y, (t, y) ∈ ys := by
 intro t r hm
 obtain ⟨_, ⟨d, r1, hd, rfl, rfl, _⟩ | ⟨r1, hd, rfl, rfl, _⟩⟩ := stepS_shape hc
 ·simp only [List.mem_cons, Prod.mk.injEq, List.not_mem_nil, or_false] at hm
  rcases hm with ⟨rfl, _⟩ | ⟨rfl, _⟩
  ·exact .inr ⟨_, .head _⟩
  ·exact .inl rfl
 ·simp only [List.mem_cons, Prod.mk.injEq, List.not_mem_nil, or_false] at hm
  exact .inl hm.1
theorem KW.drawnV (hl : LayOk P lay) (hT : FnsOk P fns) (hm : P.follows .mixedOrders = true) {id : Nat} {ops : Array Oper} {k : List K} {φ : Prop} {n : Nat} (s i0 : Nat) (hsz0 : Nat.blt n ops.size = true) (hdep : depOk ops = true) (htl : tailsOk ops n = true) (hat : (match lk A.rs i0 with | some _ => true | none => layBefore ops s i0 n) = true)
  {prs : List Ent} {sp : List (Nat × Res)} (hg : drawV lay fns ops A.rs (without i0 A.rs) A.n s i0 (takeN n ops.toList) 0 A.sl [] True = some (prs, sp, φ)) (hfr : freshV1 ops prs sp A s i0 0 prs = true) (hφ : φ)
  (hn : KW P (.ops ops (dropN n ops.toList) :: k) .normal ⟨A.n, slotsE prs ++ A.sl, sp ++ (memE prs ++ A.rs)⟩ Q) : KW P (.code (.region id ops true) :: k) .normal A Q := by
 rw [takeN_eq] at hg
 rw [dropN_eq] at hn
 have hsize : n < ops.size := by simpa [Nat.blt, Nat.succ_le_iff] using hsz0
 obtain ⟨_, hlen, hprs⟩ := drawV_spec hg hφ
 have dep := depOk_ok hdep
 have hlen' : prs.length = n := by simp only [List.length_take, Array.length_toList] at hlen; omega
 have hsp0 : n ≤ s -> sp = [] := fun h => drawV_sp hg (by simp only [List.length_take, Array.length_toList]; omega)
 have hstep := tailsOk_ok htl
 have hop : ∀ (i : Nat) op, i < n -> ops[i]? = some op -> if i = s then ∃ ys ψ, prs[i]? = some (ys, []) /\ stepS lay ⟨A.n, pickS (slotsE (prs.take i) ++ A.sl) (looks ops op), pickR (memE (prs.take i)) (looks ops op) ++ A.rs⟩ i0 op = some (ys, sp, ψ) /\ ψ
   else ∃ d y rn ψ, prs[i]? = some ([(d, y)], rn) /\ op.dst = some d /\ Nat.blt d A.n = true /\ stepZ lay fns ⟨A.n, pickS (slotsE (prs.take i) ++ A.sl) (looks ops op), bif bindsOn ops s i then A.rs else without i0 A.rs⟩ ops op i0 = some (y, rn, ψ) /\ ψ :=
  fun i op hin hi => by
   have := hprs i op (by rw [List.getElem?_take, if_pos hin]; simpa using hi)
   simpa only [Nat.zero_add, List.nil_append] using this
 -- what each lays
 have hent : ∀ (j : Nat) (p : Ent), prs[j]? = some p -> ∃ op, ops[j]? = some op /\ j < n /\ (∀ t x, (t, x) ∈ p.1 -> op.dst = some t /\ p.1 = [(t, x)]) /\ ∀ t r, (t, r) ∈ p.2 -> op.dst = some t /\ j ≠ s /\ ∃ y, p.1 = [(t, y)] := fun j p hj => by
  have hltn : j < n := by rw [<-hlen']; exact (List.getElem?_eq_some_iff.1 hj).1
  have hlt : j < ops.size := by omega
  refine ⟨ops[j], Array.getElem?_eq_getElem hlt, hltn, ?_⟩
  have h1 := hop j ops[j] hltn (Array.getElem?_eq_getElem hlt)
  split at h1
  ·rename_i e
   obtain ⟨ys, ψ, g1, g2, g3⟩ := h1
   rw [hj] at g1
   cases g1
   obtain ⟨_, ⟨d, r1, hd, rfl, _⟩ | ⟨r1, hd, rfl, _⟩⟩ := stepS_shape g2
   ·refine ⟨fun t x hm => ?_, fun t r hm => (by cases hm)⟩
    simp only [List.mem_singleton, Prod.mk.injEq] at hm
    obtain ⟨rfl, rfl⟩ := hm
    exact ⟨hd, rfl⟩
   ·exact ⟨fun t x hm => (by cases hm), fun t r hm => (by cases hm)⟩
  ·rename_i e
   obtain ⟨d, y, rn, ψ, g1, g2, g3, g4, g5⟩ := h1
   rw [hj] at g1
   cases g1
   refine ⟨fun t x hm => ?_, fun t r hm => ?_⟩
   ·simp only [List.mem_singleton, Prod.mk.injEq] at hm
    obtain ⟨rfl, rfl⟩ := hm
    exact ⟨g2, rfl⟩
   ·rcases stepZ_shape g2 g4 with e' | ⟨r', e'⟩
    ·rw [e'] at hm; cases hm
    ·rw [e'] at hm
     simp only [List.mem_singleton, Prod.mk.injEq] at hm
     obtain ⟨rfl, rfl⟩ := hm
     exact ⟨g2, e, y, rfl⟩
 have huS : ∀ (j j' : Nat) (p p' : Ent) (t : Nat) (x x' : SV), prs[j]? = some p -> prs[j']? = some p' -> (t, x) ∈ p.1 -> (t, x') ∈ p'.1 -> j = j' /\ x' = x := fun j j' p p' t x x' hj hj' hm hm' => by
  obtain ⟨o1, h1, _, h2, _⟩ := hent j p hj
  obtain ⟨o2, h3, _, h4, _⟩ := hent j' p' hj'
  have e := dep.dist j j' o1 o2 t h1 h3 (h2 t x hm).1 (h4 t x' hm').1
  subst e
  rw [hj] at hj'
  cases hj'
  refine ⟨rfl, ?_⟩
  rw [(h2 t x hm).2] at hm'
  simpa using hm'
 have hapS : ApartL (prs.map (·.1)) := by
  intro i j q q' hij hi hj t r r' hm hm'
  obtain ⟨p, h1, rfl⟩ := mapGet hi
  obtain ⟨p', h2, rfl⟩ := mapGet hj
  exact hij (huS i j p p' t r r' h1 h2 hm hm').1
 have huM : ∀ (j j' : Nat) (p p' : Ent) (t : Nat) (x x' : Res), prs[j]? = some p -> prs[j']? = some p' -> (t, x) ∈ p.2 -> (t, x') ∈ p'.2 -> j = j' := fun j j' p p' t x x' hj hj' hm hm' => by
  obtain ⟨o1, h1, _, _, h2⟩ := hent j p hj
  obtain ⟨o2, h3, _, _, h4⟩ := hent j' p' hj'
  exact dep.dist j j' o1 o2 t h1 h3 (h2 t x hm).1 (h4 t x' hm').1
 have hapM : ApartL (prs.map (·.2)) := by
  intro i j q q' hij hi hj t r r' hm hm'
  obtain ⟨p, h1, rfl⟩ := mapGet hi
  obtain ⟨p', h2, rfl⟩ := mapGet hj
  exact hij (huM i j p p' t r r' h1 h2 hm hm')
 have hnew : ∀ (j : Nat) (p : Ent) (t : Nat) (r : Res), prs[j]? = some p -> (t, r) ∈ p.2 -> freshE ops t j 0 prs = true /\ (freshS t A.sl = true /\ freshR t A.rs = true) /\ (t = i0 ∨ freshR t sp = true) := fun j p t r hj hm => by
  obtain ⟨op, h1, h2, h3, h4⟩ := hent j p hj
  obtain ⟨h5, h6, y, h7⟩ := h4 t r hm
  have e : p = ((t, y) :: [], p.2) := Prod.ext h7 rfl
  have := freshV1_ok hfr j t y [] p.2 (by rw [hj, <-e]) (.inr fun e' => by rw [e'] at hm; cases hm)
  rw [Nat.zero_add] at this
  exact ⟨this.1, this.2.1, this.2.2 h6⟩
 -- the special number, laid here, is laid before it is looked at
 have hi0b : ∀ (j : Nat) (p : Ent) (r : Res), prs[j]? = some p -> (i0, r) ∈ p.2 -> bindsOn ops s j = true := fun j p r hj hm => by
  obtain ⟨op, h1, h2, h3, h4⟩ := hent j p hj
  obtain ⟨h5, h6, _⟩ := h4 i0 r hm
  have hf := (hnew j p i0 r hj hm).2.1.2
  have hno : lk A.rs i0 = none := by
   cases hlk : lk A.rs i0 with
   | none => rfl
   | some r' => exact absurd rfl (freshR_mem hf (lk_mem hlk)).1
  rw [hno] at hat
  exact layBefore_ok hat h2 h1 h5 h6
 let SL : (Nat -> Bool) -> List (Nat × SV) := fun ls => pickL ls 0 (prs.map (·.1)) ++ A.sl
 let RS : (Nat -> Bool) -> List (Nat × Res) := fun ls => (if ls s then sp else []) ++ (pickL ls 0 (prs.map (·.2)) ++ A.rs)
 have hSLin : ∀ (ls : Nat -> Bool) (j : Nat) (p : Ent) (t : Nat) (x : SV), prs[j]? = some p -> (t, x) ∈ p.1 -> ls j = true -> lk (SL ls) t = some x := fun ls j p t x hj hm hls => by
  refine pickL_in (k := 0) (i := j) (p := p.1) (by rw [List.getElem?_map, hj]; rfl) (by simpa using hls) ?_ fun j' q hne hq r' hm' => ?_
  ·obtain ⟨r, hr⟩ := lkA_of hm
   rw [hr, (huS j j p p t x r hj hj hm (lkM hr)).2]
  ·obtain ⟨p', h2, rfl⟩ := mapGet hq
   exact hne (huS j j' p p' t x r' hj h2 hm hm').1.symm
 have hSLout : ∀ (ls : Nat -> Bool) (t : Nat), (∀ (j : Nat) (p : Ent) (x : SV), prs[j]? = some p -> ls j = true -> (t, x) ∉ p.1) -> lk (SL ls) t = lk A.sl t := fun ls t hno =>
  pickL_out fun j q hq hls r hm => by
   obtain ⟨p', h2, rfl⟩ := mapGet hq
   exact hno j p' r h2 hls hm
 have hPMin : ∀ (ls : Nat -> Bool) (j : Nat) (p : Ent) (t : Nat) (x : Res), prs[j]? = some p -> lk p.2 t = some x -> ls j = true -> lk (pickL ls 0 (prs.map (·.2)) ++ A.rs) t = some x := fun ls j p t x hj hm hls => by
  refine pickL_in (k := 0) (i := j) (p := p.2) (by rw [List.getElem?_map, hj]; rfl) (by simpa using hls) hm fun j' q hne hq r' hm' => ?_
  obtain ⟨p', h2, rfl⟩ := mapGet hq
  exact hne (huM j j' p p' t x r' hj h2 (lkM hm) hm').symm
 have hPMout : ∀ (ls : Nat -> Bool) (t : Nat), (∀ (j : Nat) (p : Ent) (x : Res), prs[j]? = some p -> ls j = true -> (t, x) ∉ p.2) -> lk (pickL ls 0 (prs.map (·.2)) ++ A.rs) t = lk A.rs t := fun ls t hno =>
  pickL_out fun j q hq hls r hm => by
   obtain ⟨p', h2, rfl⟩ := mapGet hq
   exact hno j p' r h2 hls hm
 have hPMbase : ∀ (ls : Nat -> Bool) (t : Nat) (r : Res), lk A.rs t = some r -> lk (pickL ls 0 (prs.map (·.2)) ++ A.rs) t = some r := fun ls t r hr => by
  rw [hPMout ls t fun j p x hj _ hm => ?_]
  ·exact hr
  ·exact (freshR_mem (hnew j p t x hj hm).2.1.2 (lk_mem hr)).1 rfl
 intro o h tm w hs
 show (Code.region id ops true).wp P (kq P (lift Q o w) k) ⟨tm, []⟩ w
 refine wp_region_any hm ?_
 have main : ∀ (fuel : Nat) (listed : Array Bool) (o' : Nat -> Tag) (h' : Nat -> Value) (tm' : Array Value) (w' : World), listed.size = ops.size -> (∀ j, n ≤ j -> listed.getD j false = false) -> cntU (fun j => listed.getD j false) n + (ops.size - n) ≤ fuel ->
   (∀ (i : Nat) oi, ops[i]? = some oi -> listed.getD i false = true -> ∀ e ∈ oi.after, Region.binds .any e = true -> listed.getD e.on false = true) ->
   Sat o' h' ⟨A.n, SL (fun j => listed.getD j false), RS (fun j => listed.getD j false)⟩ tm' w' -> Ext o w o' w' -> wpAny P .any ops (kq P (lift Q o w) k) fuel listed ⟨tm', []⟩ w' := by
  intro fuel
  -- all have come up
  have full : ∀ (listed : Array Bool) (o' : Nat -> Tag) (h' : Nat -> Value) (tm' : Array Value) (w' : World), (∀ j, j < n -> listed.getD j false = true) ->
    Sat o' h' ⟨A.n, SL (fun j => listed.getD j false), RS (fun j => listed.getD j false)⟩ tm' w' -> Ext o w o' w' -> kq P (lift Q o w) (.ops ops (ops.toList.drop n) :: k) .normal ⟨tm', []⟩ w' := by
   intro listed o' h' tm' w' hall hs' hx
   refine kq_mono (lift_trans hx) (.ops ops (ops.toList.drop n) :: k) .normal _ w' (hn o' h' tm' w' ?_)
   refine ⟨hs'.size, hs'.tags, fun t x hl => hs'.slot t x ?_, fun i r hl => hs'.res i r ?_⟩
   ·simp only at hl ⊢
    by_cases hex : ∃ (j : Nat) (p : Ent) (y : SV), prs[j]? = some p /\ (t, y) ∈ p.1
    ·obtain ⟨j, p, y, hj, hy⟩ := hex
     obtain ⟨_, _, hjn, _⟩ := hent j p hj
     rw [lkU (slotsE_mem.2 ⟨j, p, hj, hy⟩) fun y' hy' => (by
      obtain ⟨j', p', hj', hm'⟩ := slotsE_mem.1 hy'
      exact (huS j j' p p' t y y' hj hj' hy hm').2)] at hl
     cases hl
     exact hSLin _ j p t _ hj hy (by simpa using hall j hjn)
    ·rw [lkA_none fun y hy => (by
      obtain ⟨j', p', hj', hm'⟩ := slotsE_mem.1 hy
      exact hex ⟨j', p', y, hj', hm'⟩)] at hl
     rw [hSLout _ t fun j p x hj _ hm => hex ⟨j, p, x, hj, hm⟩]
     exact hl
   ·simp only at hl ⊢
    have e1 : (if listed.getD s false then sp else []) = sp := by
     by_cases hsn : s < n
     ·rw [hall s hsn]; rfl
     ·rw [hsp0 (by omega)]; split <;> rfl
    have e2 : pickL (fun j => listed.getD j false) 0 (prs.map (·.2)) = memE prs := pickL_all fun j hj => by
     simp only [List.length_map, hlen'] at hj
     simpa using hall j hj
    simp only [RS, e1, e2]
    exact hl
  have done : ∀ (listed : Array Bool), listed.size = ops.size -> Region.ready .any ops listed = [] -> ∀ j, j < ops.size -> listed.getD j false = true := by
   intro listed hsz hr j
   induction j using Nat.strongRecOn with
   | ind j ih =>
     intro hj
     cases hlj : listed.getD j false with
     | true => rfl
     | false =>
       exfalso
       have : j ∈ Region.ready .any ops listed := by
        rw [mem_ready]
        refine ⟨?_, ops[j], Array.getElem?_eq_getElem hj, fun e he hb => ?_⟩
        ·rw [Array.getD_eq_getD_getElem?] at hlj ⊢
         rw [Array.getElem?_eq_getElem (by omega)] at hlj ⊢
         exact hlj
        ·have hlt := dep.below j ops[j] (Array.getElem?_eq_getElem hj) e he hb
         exact ih e.on hlt (by omega)
       rw [hr] at this
       cases this
  induction fuel with
  | zero =>
    intro listed o' h' tm' w' hsz hnl hc
    omega
  | succ fuel ih =>
    intro listed o' h' tm' w' hsz hnl hc hcl hs' hx
    refine ⟨fun hr => (by have := done listed hsz hr n (by omega); rw [hnl n (Nat.le_refl n)] at this; cases this), fun i hi => ?_⟩
    by_cases hin : n ≤ i
    ·obtain ⟨hun, op, hop', haft⟩ := mem_ready.1 hi
     have hlt : i < ops.size := (Array.getElem?_eq_some_iff.1 hop').1
     have hall : ∀ d j, j < i -> i ≤ j + d -> listed.getD j false = true := by
      intro d
      induction d with
      | zero => intro j h1 h2; omega
      | succ d ihd =>
        intro j h1 h2
        obtain ⟨q, oq, h3, h3', h4, e, h5, h6, h7⟩ := hstep i hin hlt j h1
        by_cases hqi : q = i
        ·subst hqi
         rw [hop'] at h4
         cases h4
         rw [<-h7]; exact haft e h5 h6
        ·have := ihd q (by omega) (by omega)
         rw [<-h7]; exact hcl q oq h4 this e h5 h6
     have hi0 : i = n := by
      rcases Nat.lt_or_ge n i with h | h
      ·have := hall i n h (by omega)
       rw [hnl n (Nat.le_refl n)] at this; cases this
      ·omega
     subst hi0
     have hf := full listed o' h' tm' w' (fun j hj => hall i j hj (by omega)) hs' hx
     exact (tailSeq hstep dep.below (ops.size - i) i (fuel + 1) listed ⟨tm', []⟩ w' (by omega) (Nat.le_refl _) hsz (fun j hj => hall i j hj (by omega)) hnl (by omega) hf).2 i hi
    obtain ⟨hun, op, hop', haft⟩ := mem_ready.1 hi
    have hlt : i < ops.size := (Array.getElem?_eq_some_iff.1 hop').1
    have hun' : listed.getD i false = false := by
     rw [Array.getD_eq_getD_getElem?, Array.getElem?_eq_getElem (by omega)] at hun ⊢
     exact hun
    have h1 := hop i op (by omega) hop'
    -- what has to come before the special one has come, once that one has
    have hsb : listed.getD s false = true -> ∀ j, bindsOn ops s j = true -> listed.getD j false = true := fun hls j hb => by
     exact waitsFor_ok (ls := fun j => listed.getD j false) hcl hb hls
    have hsl : ∀ t x, lk (pickS (slotsE (prs.take i) ++ A.sl) (looks ops op)) t = some x -> lk (SL (fun j => listed.getD j false)) t = some x := fun t x hl => by
     obtain ⟨e1, hm⟩ := pickS_lk hl
     by_cases hex : ∃ (j : Nat) (p : Ent) (y : SV), prs[j]? = some p /\ (t, y) ∈ p.1
     ·obtain ⟨j, p, y', hj, hy⟩ := hex
      obtain ⟨oj, hoj, _, hdj, _⟩ := hent j p hj
      rcases dep.look i j op oj t hop' hoj (hdj t y' hy).1 hm with ⟨hji, e, he, hb, heq⟩ | ⟨hij, e, he, hb, heq⟩
      ·have hlj : listed.getD j false = true := by rw [<-heq]; exact haft e he hb
       rw [lkU (slotsE_mem.2 ⟨j, p, by rw [List.getElem?_take, if_pos hji]; exact hj, hy⟩) fun y'' hy'' => (by
        obtain ⟨j', p', hj', hm'⟩ := slotsE_mem.1 hy''
        rw [List.getElem?_take] at hj'
        split at hj'
        ·exact (huS j j' p p' t y' y'' hj hj' hy hm').2
        ·cases hj')] at e1
       cases e1
       exact hSLin _ j p t _ hj hy (by simpa using hlj)
      ·have hlj : listed.getD j false = false := by
        cases hlj : listed.getD j false with
        | false => rfl
        | true =>
          have := hcl j oj hoj hlj e he hb
          rw [heq, hun'] at this
          cases this
       rw [lkA_none fun y'' hy'' => (by
        obtain ⟨j', p', hj', hm'⟩ := slotsE_mem.1 hy''
        rw [List.getElem?_take] at hj'
        split at hj'
        ·have := (huS j j' p p' t y' y'' hj hj' hy hm').1
         omega
        ·cases hj')] at e1
       rw [hSLout _ t fun j' p' x' hj' hls hm' => (by
        have := (huS j j' p p' t y' x' hj hj' hy hm').1
        subst this
        rw [hlj] at hls; cases hls)]
       exact e1
     ·rw [lkA_none fun y'' hy'' => (by
       obtain ⟨j', p', hj', hm'⟩ := slotsE_mem.1 hy''
       rw [List.getElem?_take] at hj'
       split at hj'
       ·exact hex ⟨j', p', y'', hj', hm'⟩
       ·cases hj')] at e1
      rw [hSLout _ t fun j' p' x' hj' hls hm' => hex ⟨j', p', x', hj', hm'⟩]
      exact e1
    have hget : ∀ j, (listed.setIfInBounds i true).getD j false = if j = i then true else listed.getD j false := fun j => by
     by_cases hji : j = i
     ·subst hji
      rw [if_pos rfl, Array.getD_eq_getD_getElem?, Array.getElem?_setIfInBounds_self]
      simp [hsz, hlt]
     ·rw [if_neg hji, getD_set_ne false (Ne.symm hji)]
    have next : ∀ {ys : List (Nat × SV)} {rn sp' : List (Nat × Res)}, prs[i]? = some (ys, rn) -> (∀ t r, lk (RS (fun j => (listed.setIfInBounds i true).getD j false)) t = some r -> lk (sp' ++ RS (fun j => listed.getD j false)) t = some r) ->
      ∀ o2 h2 tm2 w1, Sat o2 h2 ⟨A.n, ys ++ SL (fun j => listed.getD j false), sp' ++ RS (fun j => listed.getD j false)⟩ tm2 w1 -> Ext o' w' o2 w1 -> wpAny P .any ops (kq P (lift Q o w) k) fuel (listed.setIfInBounds i true) ⟨tm2, []⟩ w1 := fun {ys rn sp'} hpi hrs o2 h2 tm2 w1 hs2 hext => by
     refine ih (listed.setIfInBounds i true) o2 h2 _ w1 (by simp [hsz]) (fun j hj => by rw [hget, if_neg (by omega)]; exact hnl j hj) ?_ ?_ ⟨hs2.size, hs2.tags, fun t x hlk => hs2.slot t x ?_, fun t r hlk => hs2.res t r (hrs t r hlk)⟩ (hx.trans hext)
     ·have := cntU_upd (ls := fun j => listed.getD j false) (ls' := fun j => (listed.setIfInBounds i true).getD j false) (i := i) (n := n) (by omega) hun' (by simp [hget]) fun j hj => by simp [hget, hj]
      omega
     ·intro j oj hoj hlj e he hb
      rw [hget] at hlj ⊢
      by_cases he' : e.on = i
      ·rw [if_pos he']
      ·rw [if_neg he']
       by_cases hji : j = i
       ·subst hji
        rw [hop'] at hoj
        cases hoj
        exact haft e he hb
       ·rw [if_neg hji] at hlj
        exact hcl j oj hoj hlj e he hb
     ·exact pickL_step (p := ys) hapS (by rw [List.getElem?_map, hpi]; rfl) (by simp [hget]) (fun j hj => by simp [hget, hj]) hlk
    by_cases his : i = s
    ·rw [if_pos his] at h1
     obtain ⟨ys, ψ, g1, g2, g3⟩ := h1
     have huns : listed.getD s false = false := by rw [<-his]; exact hun'
     have hRS : RS (fun j => listed.getD j false) = pickL (fun j => listed.getD j false) 0 (prs.map (·.2)) ++ A.rs := by
      simp only [RS, huns]; rfl
     refine stepS_wp hl hop' (A := ⟨A.n, SL (fun j => listed.getD j false), RS (fun j => listed.getD j false)⟩) (B := ⟨A.n, pickS (slotsE (prs.take i) ++ A.sl) (looks ops op), pickR (memE (prs.take i)) (looks ops op) ++ A.rs⟩) ⟨rfl, fun t r hr => ?_, hsl⟩ hs' g2 g3 (fun d y hdy => ?_) (next g1 fun t r hr => ?_)
     ·simp only at hr ⊢
      rw [hRS]
      by_cases hm : ∃ r', (t, r') ∈ pickR (memE (prs.take i)) (looks ops op)
      ·obtain ⟨r', hm⟩ := hm
       obtain ⟨r2, h2⟩ := lkA_of hm
       rw [lkA_some h2] at hr
       cases hr
       have hm2 := lkM h2
       rw [pickR, List.mem_filter] at hm2
       obtain ⟨hm3, hlook⟩ := hm2
       obtain ⟨j, p, hj, hm4⟩ := memE_mem.1 hm3
       rw [List.getElem?_take] at hj
       split at hj
       ·rename_i hji
        obtain ⟨oj, hoj, _, _, hdj⟩ := hent j p hj
        obtain ⟨k1, k2, y, k3⟩ := hdj t _ hm4
        rcases dep.look i j op oj t hop' hoj k1 (memN_yes hlook) with ⟨_, ed, hed, hb, heq⟩ | ⟨hij, _⟩
        ·have hlj : listed.getD j false = true := by rw [<-heq]; exact haft ed hed hb
         obtain ⟨r4, h4⟩ := lkA_of hm4
         have e4 : r4 = r := by
          have h5 := hop j oj (by omega) hoj
          rw [if_neg k2] at h5
          obtain ⟨d', y', rn', ψ', q1, q2, _, q4, _⟩ := h5
          rw [hj] at q1
          cases q1
          rcases stepZ_shape q2 q4 with e | ⟨r5, e⟩
          ·rw [e] at hm4; cases hm4
          ·rw [e] at hm4 h4
           simp only [List.mem_singleton, Prod.mk.injEq] at hm4
           obtain ⟨rfl, rfl⟩ := hm4
           rw [lk_cons, if_pos rfl] at h4
           cases h4; rfl
         rw [e4] at h4
         exact hPMin _ j p t r hj h4 (by simpa using hlj)
        ·omega
       ·cases hj
      ·rw [lkA_none fun r' h' => hm ⟨r', h'⟩] at hr
       exact hPMbase _ t r hr
     ·have hf := freshV1_ok hfr i d y [] [] (by
       rw [g1]
       obtain ⟨_, ⟨d', r1, _, e, _⟩ | ⟨r1, _, e, _⟩⟩ := stepS_shape g2
       ·rw [e] at hdy ⊢
        simp only [List.mem_singleton, Prod.mk.injEq] at hdy
        obtain ⟨rfl, rfl⟩ := hdy
        rfl
       ·rw [e] at hdy; cases hdy) (.inl (by omega))
      rw [Nat.zero_add] at hf
      rw [hRS]
      refine fresh_super hf.2.1.1 hf.2.1.2 (fun t x hm => ?_) (fun t r hm => ?_)
      ·obtain ⟨j, q, hj, hlj, hm'⟩ := pickL_mem hm
       obtain ⟨p', hj', rfl⟩ := mapGet hj
       exact menL_ok (freshE_ok hf.1 j p' hj' (by intro e; rw [Nat.zero_add] at e hlj; subst e; rw [hun'] at hlj; cases hlj) (by
        rw [Nat.zero_add] at hlj ⊢
        cases hbo : bindsOn ops j i with
        | false => rfl
        | true =>
          have := waitsFor_ok (ls := fun j => listed.getD j false) hcl hbo hlj
          rw [hun'] at this; cases this)).1 t x hm'
      ·obtain ⟨j, q, hj, hlj, hm'⟩ := pickL_mem hm
       obtain ⟨p', hj', rfl⟩ := mapGet hj
       exact freshR_mem (freshE_ok hf.1 j p' hj' (by intro e; rw [Nat.zero_add] at e hlj; subst e; rw [hun'] at hlj; cases hlj) (by
        rw [Nat.zero_add] at hlj ⊢
        cases hbo : bindsOn ops j i with
        | false => rfl
        | true =>
          have := waitsFor_ok (ls := fun j => listed.getD j false) hcl hbo hlj
          rw [hun'] at this; cases this)).2 hm'
     ·have hnews : (listed.setIfInBounds i true).getD s false = true := by rw [hget, if_pos his.symm]
      have hRS' : RS (fun j => (listed.setIfInBounds i true).getD j false) = sp ++ (pickL (fun j => (listed.setIfInBounds i true).getD j false) 0 (prs.map (·.2)) ++ A.rs) := by
       simp only [RS, hnews]; rfl
      rw [hRS'] at hr
      rw [hRS]
      by_cases hmem : ∃ r', (t, r') ∈ sp
      ·obtain ⟨r', hmem⟩ := hmem
       obtain ⟨r2, h2⟩ := lkA_of hmem
       rw [lkA_some h2] at hr ⊢
       exact hr
      ·rw [lkA_none fun r' h' => hmem ⟨r', h'⟩] at hr ⊢
       have := pickL_step (p := []) hapM (by rw [List.getElem?_map, g1]; rfl) (ls' := fun j => (listed.setIfInBounds i true).getD j false) (ls := fun j => listed.getD j false) (by simp [hget]) (fun j hj => by simp [hget, hj]) hr
       simpa using this
    ·rw [if_neg his] at h1
     obtain ⟨d, y, rn, ψ, g1, g2, g3, g4, g5⟩ := h1
     have hkey : ∀ t r, (t, r) ∈ rn -> t = d := fun t r hm => by
      rcases stepZ_shape g2 g4 with e | ⟨r', e⟩
      ·rw [e] at hm; cases hm
      ·rw [e] at hm
       simp only [List.mem_singleton, Prod.mk.injEq] at hm
       exact hm.1
     -- the new number is none of the special ones, once these are there
     have hspd : listed.getD s false = true -> ∀ t r, (t, r) ∈ rn -> freshR t sp = true := fun hls t r hm => by
      rcases (hnew i _ t r g1 hm).2.2 with e | e
      ·rw [e] at hm
       have := hsb hls i (hi0b i _ r g1 hm)
       rw [hun'] at this; cases this
      ·exact e
     have hfr' : rn ≠ [] -> freshB ⟨A.n, SL (fun j => listed.getD j false), RS (fun j => listed.getD j false)⟩ d = true := fun hne => by
      obtain ⟨r, hr⟩ : ∃ r, (d, r) ∈ rn := by
       rcases stepZ_shape g2 g4 with e | ⟨r', e⟩
       ·exact absurd e hne
       ·exact ⟨r', by rw [e]; exact .head _⟩
      have hf := hnew i _ d r g1 hr
      simp only [RS]
      rw [<-List.append_assoc]
      refine fresh_super hf.2.1.1 hf.2.1.2 (fun t x hm => ?_) (fun t r' hm => ?_)
      ·obtain ⟨j, q, hj, hlj, hm'⟩ := pickL_mem hm
       obtain ⟨p', hj', rfl⟩ := mapGet hj
       exact menL_ok (freshE_ok hf.1 j p' hj' (by intro e; rw [Nat.zero_add] at e hlj; subst e; rw [hun'] at hlj; cases hlj) (by
        rw [Nat.zero_add] at hlj ⊢
        cases hbo : bindsOn ops j i with
        | false => rfl
        | true =>
          have := waitsFor_ok (ls := fun j => listed.getD j false) hcl hbo hlj
          rw [hun'] at this; cases this)).1 t x hm'
      ·rcases List.mem_append.1 hm with hm | hm
       ·split at hm
        ·rename_i hls
         exact freshR_mem (hspd hls d r hr) hm
        ·cases hm
       ·obtain ⟨j, q, hj, hlj, hm'⟩ := pickL_mem hm
        obtain ⟨p', hj', rfl⟩ := mapGet hj
        exact freshR_mem (freshE_ok hf.1 j p' hj' (by intro e; rw [Nat.zero_add] at e hlj; subst e; rw [hun'] at hlj; cases hlj) (by
        rw [Nat.zero_add] at hlj ⊢
        cases hbo : bindsOn ops j i with
        | false => rfl
        | true =>
          have := waitsFor_ok (ls := fun j => listed.getD j false) hcl hbo hlj
          rw [hun'] at this; cases this)).2 hm'
     refine stepZ_wp hl hT hop' (A := ⟨A.n, SL (fun j => listed.getD j false), RS (fun j => listed.getD j false)⟩) (B := ⟨A.n, pickS (slotsE (prs.take i) ++ A.sl) (looks ops op), bif bindsOn ops s i then A.rs else without i0 A.rs⟩) ⟨rfl, fun t r hr => ?_, hsl⟩ hs' g2 g3 g4 g5 hfr' fun o2 h2 v w1 hs2 hext => next g1 (sp' := rn) (fun t r hr => ?_) o2 h2 _ w1 hs2 hext
     ·simp only at hr ⊢
      cases hbo : bindsOn ops s i with
      | true =>
        rw [hbo] at hr
        have huns : listed.getD s false = false := by
         cases hls : listed.getD s false with
         | false => rfl
         | true => have := hsb hls i hbo; rw [hun'] at this; cases this
        simp only [RS, huns]
        exact hPMbase _ t r hr
      | false =>
        rw [hbo] at hr
        obtain ⟨k1, k2⟩ := without_lk hr
        simp only [RS]
        rw [lkA_none fun r' hm => ?_]
        ·exact hPMbase _ t r k1
        ·split at hm
         ·rename_i hls
          by_cases hsn : s < n
          ·have h6 := hop s ops[s] hsn (Array.getElem?_eq_getElem (by omega))
           rw [if_pos rfl] at h6
           obtain ⟨ys, ψ', q1, q2, _⟩ := h6
           rcases stepS_keys q2 t r' hm with e | ⟨y', hy'⟩
           ·exact k2 e
           ·obtain ⟨_, ⟨d', r1, _, e, _⟩ | ⟨r1, _, e, _⟩⟩ := stepS_shape q2
            ·rw [e] at q1 hy'
             simp only [List.mem_singleton, Prod.mk.injEq] at hy'
             obtain ⟨rfl, _⟩ := hy'
             have hf := freshV1_ok hfr s t _ [] [] q1 (.inl (by omega))
             exact (freshR_mem hf.2.1.2 (lk_mem k1)).1 rfl
            ·rw [e] at hy'; cases hy'
          ·rw [hsp0 (by omega)] at hm; cases hm
         ·cases hm
     ·have hnews : (listed.setIfInBounds i true).getD s false = listed.getD s false := by rw [hget, if_neg (Ne.symm his)]
      simp only [RS, hnews] at hr ⊢
      by_cases hmem : ∃ r', (t, r') ∈ (if listed.getD s false = true then sp else [])
      ·obtain ⟨r', hmem⟩ := hmem
       rw [lkA_none fun r2 h2 => ?_]
       ·obtain ⟨r3, h3⟩ := lkA_of hmem
        rw [lkA_some h3] at hr ⊢
        exact hr
       ·split at hmem
        ·rename_i hls
         exact (freshR_mem (hspd hls t r2 h2) hmem).1 rfl
        ·cases hmem
      ·rw [lkA_none fun r' h' => hmem ⟨r', h'⟩] at hr
       have := pickL_step (p := rn) hapM (by rw [List.getElem?_map, g1]; rfl) (ls' := fun j => (listed.setIfInBounds i true).getD j false) (ls := fun j => listed.getD j false) (by simp [hget]) (fun j hj => by simp [hget, hj]) hr
       by_cases hrn : ∃ r', (t, r') ∈ rn
       ·obtain ⟨r', hrn⟩ := hrn
        obtain ⟨r2, h2⟩ := lkA_of hrn
        rw [lkA_some h2] at this ⊢
        exact this
       ·rw [lkA_none fun r' h' => hrn ⟨r', h'⟩] at this ⊢
        rw [lkA_none fun r' h' => hmem ⟨r', h'⟩]
        exact this
 refine main ops.size (Array.replicate ops.size false) o h tm w.drew (by simp) (fun j _ => by simp [Array.getD_eq_getD_getElem?, Array.getElem?_replicate]; split <;> rfl) ?_ ?_ ?_ (Ext.drew o w)
 ·have : ∀ n, cntU (fun j => (Array.replicate ops.size false).getD j false) n ≤ n := by
   intro n
   induction n with
   | zero => exact Nat.le_refl _
   | succ n ih => simp only [cntU]; split <;> omega
  have := this n
  omega
 ·intro i oi hoi hli
  simp [Array.getD_eq_getD_getElem?, Array.getElem?_replicate] at hli
  split at hli <;> cases hli
 ·have hs' := hs.drew
  have hno : ∀ j, (fun j => (Array.replicate ops.size false).getD j false) j = false := fun j => by
   simp [Array.getD_eq_getD_getElem?, Array.getElem?_replicate]
   split <;> rfl
  have hno' := hno s
  simp only at hno'
  have e1 : SL (fun j => (Array.replicate ops.size false).getD j false) = A.sl := by simp only [SL]; rw [pickL_none hno]; rfl
  have e2 : RS (fun j => (Array.replicate ops.size false).getD j false) = A.rs := by simp only [RS, hno']; rw [pickL_none hno]; rfl
  rw [e1, e2]
  exact hs'
theorem KW.goDV {k k' : List K} {e : Exit} (hl : LayOk P lay) (hT : FnsOk P fns) (hm : P.follows .mixedOrders = true) (f : Nat) {id : Nat} {ops : Array Oper} {φ ψ : Prop} (h : run2 lay fns f k e A True = (.code (.region id ops true) :: k', .normal, A', φ)) (n s i0 : Nat) (hsz0 : Nat.blt n ops.size = true) (hdep : depOk ops = true) (htl : tailsOk ops n = true) (hat : (match lk A'.rs i0 with | some _ => true | none => layBefore ops s i0 n) = true)
  {prs : List Ent} {sp : List (Nat × Res)} (hg : drawV lay fns ops A'.rs (without i0 A'.rs) A'.n s i0 (takeN n ops.toList) 0 A'.sl [] True = some (prs, sp, ψ)) (hfr : freshV1 ops prs sp A' s i0 0 prs = true) (hφ : φ) (hψ : ψ)
  (hn : KW P (.ops ops (dropN n ops.toList) :: k') .normal ⟨A'.n, slotsE prs ++ A'.sl, sp ++ (memE prs ++ A'.rs)⟩ Q) : KW P k e A Q :=
 KW.go hl hT f h hφ (KW.drawnV hl hT hm s i0 hsz0 hdep htl hat hg hfr hψ hn)
theorem KW.dupG (i j : Nat) {k : List K} {e : Exit} {b T : Nat} {vs : List Value} (hi : lk A.rs i = some (.glo b T vs)) (hk : KW P k e ⟨A.n, A.sl, (j, .glo b T vs) :: A.rs⟩ Q) : KW P k e A Q :=
 KW.weaken (A' := ⟨A.n, A.sl, (j, .glo b T vs) :: A.rs⟩) (fun o h tm w hs => ⟨o, h, ⟨hs.size, hs.tags, hs.slot, fun i' r hl => by
  rw [lk_cons] at hl
  split at hl
  ·cases hl; exact hs.res i _ hi
  ·exact hs.res i' r hl⟩, Ext.refl o w⟩) hk
end
end Go.Sy
end
section
namespace Go.Sy
variable [Drw]
section
variable {P : Program} {lay : Lay} {A A' B : St} {Q : Exit -> St -> Prop} {fns : Fns} {o : Nat -> Tag} {h : Nat -> Value} {tm : Array Value} {w : World}
def phaseE (lay : Lay) (fns : Fns) (ops : Array Oper) (rs : List (Nat × Res)) (n : Nat) (F : List Nat) : List Oper -> Nat -> List (Nat × SV) -> Prop -> Option (List Ent × Prop)
 | [], _, _, φ => some ([], φ)
 | op :: l, i, sl, φ => match memN i F with
   | false => match phaseE lay fns ops rs n F l (i + 1) sl φ with
     | some (ps, χ) => some (([], []) :: ps, χ)
     | none => none
   | true => match op.dst with
     | some d => match Nat.blt d n, stepZ lay fns ⟨n, pickS sl (looks ops op), rs⟩ ops op n with
       | true, some (y, rn, ψ) => match phaseE lay fns ops rs n F l (i + 1) ((d, y) :: sl) (φ /\ ψ) with
         | some (ps, χ) => some (([(d, y)], rn) :: ps, χ)
         | none => none
       | _, _ => none
     | none => none
theorem phaseE_spec {ops : Array Oper} {rs : List (Nat × Res)} {n : Nat} {F : List Nat} : ∀ {l : List Oper} {k : Nat} {sl : List (Nat × SV)} {prs : List Ent} {φ φ' : Prop}, phaseE lay fns ops rs n F l k sl φ = some (prs, φ') -> φ' -> φ /\ prs.length = l.length /\
  ∀ (i : Nat) op, l[i]? = some op -> if memN (k + i) F = true then ∃ d y rn ψ, prs[i]? = some ([(d, y)], rn) /\ op.dst = some d /\ Nat.blt d n = true /\ stepZ lay fns ⟨n, pickS (slotsE (prs.take i) ++ sl) (looks ops op), rs⟩ ops op n = some (y, rn, ψ) /\ ψ
    else prs[i]? = some ([], [])
 | [], k, sl, prs, φ, φ', h, hφ => by
   simp only [phaseE, Option.some.injEq, Prod.mk.injEq] at h
   obtain ⟨rfl, rfl⟩ := h
   exact ⟨hφ, rfl, by simp⟩
 | op :: l, k, sl, prs, φ, φ', h, hφ => by
   simp only [phaseE] at h
   split at h
   ·rename_i hk
    split at h
    ·rename_i ps χ hrec
     simp only [Option.some.injEq, Prod.mk.injEq] at h
     obtain ⟨rfl, rfl⟩ := h
     obtain ⟨h1, h2, h4⟩ := phaseE_spec hrec hφ
     refine ⟨h1, by simp [h2], fun i op' hi => ?_⟩
     cases i with
     | zero =>
       rw [Nat.add_zero, hk, if_neg (by decide)]; rfl
     | succ i =>
       simp at hi
       have := h4 i op' hi
       rw [show k + (i + 1) = k + 1 + i by omega]
       split
       ·rename_i e
        rw [if_pos e] at this
        obtain ⟨d', y', rn', ψ', g1, g2, g3, g4, g5⟩ := this
        refine ⟨d', y', rn', ψ', by simpa using g1, g2, g3, ?_, g5⟩
        rw [List.take_succ_cons, slotsE_cons]; exact g4
       ·rename_i e
        rw [if_neg e] at this
        simpa using this
    ·cases h
   ·rename_i hk
    split at h
    ·rename_i d hd
     split at h
     ·rename_i y rn ψ hlt hs
      split at h
      ·rename_i ps χ hrec
       simp only [Option.some.injEq, Prod.mk.injEq] at h
       obtain ⟨rfl, rfl⟩ := h
       obtain ⟨h1, h2, h4⟩ := phaseE_spec hrec hφ
       refine ⟨h1.1, by simp [h2], fun i op' hi => ?_⟩
       cases i with
       | zero =>
         simp at hi; subst hi
         rw [Nat.add_zero, hk, if_pos rfl]
         exact ⟨d, y, rn, ψ, by simp, hd, hlt, by simpa [slotsE] using hs, h1.2⟩
       | succ i =>
         simp at hi
         have := h4 i op' hi
         rw [show k + (i + 1) = k + 1 + i by omega]
         split
         ·rename_i e
          rw [if_pos e] at this
          obtain ⟨d', y', rn', ψ', g1, g2, g3, g4, g5⟩ := this
          refine ⟨d', y', rn', ψ', by simpa using g1, g2, g3, ?_, g5⟩
          rw [List.take_succ_cons, slotsE_cons]; exact g4
         ·rename_i e
          rw [if_neg e] at this
          simpa using this
      ·cases h
     ·cases h
    ·cases h
def eqA : List Bool -> List Bool -> Bool
 | [], [] => true
 | a :: l, b :: r => (a == b) && eqA l r
 | _, _ => false
theorem eqA_ok : ∀ {l r : List Bool}, eqA l r = true -> l = r
 | [], [], _ => rfl
 | a :: l, b :: r, h => by
   simp only [eqA, Bool.and_eq_true] at h
   rw [eqA_ok h.2]
   rw [beq_iff_eq.1 h.1]
 | [], b :: r, h => by cases h
 | a :: l, [], h => by cases h
def inS (S : List (Array Bool)) (L : Array Bool) : Bool := S.any fun M => eqA M.toList L.toList
theorem inS_ok {S : List (Array Bool)} {L : Array Bool} (h : inS S L = true) : L ∈ S := by
 unfold inS at h
 obtain ⟨M, hM, h⟩ := List.any_eq_true.1 h
 have := Array.toList_inj.1 (eqA_ok h)
 rwa [<-this]
def phaseS (ops : Array Oper) (l0 : Array Bool) : List Nat -> List (Array Bool)
 | F => F.foldl (fun S i => S ++ (S.filter fun L => memN i (Region.ready .any ops L)).map fun L => L.setIfInBounds i true) [l0]
def cntF (L : Array Bool) : Nat := L.toList.countP fun b => !b
def closedL (ops : Array Oper) (L : Array Bool) : Bool := (List.range ops.size).all fun i => match ops[i]? with
 | some op => !L.getD i false || op.after.toList.all fun e => !Region.binds .any e || L.getD e.on false
 | none => true
theorem closedL_ok {ops : Array Oper} {L : Array Bool} (h : closedL ops L = true) (i : Nat) (op : Oper) (hop : ops[i]? = some op) (hi : L.getD i false = true) : ∀ e ∈ op.after, Region.binds .any e = true -> L.getD e.on false = true := fun e he hb => by
 unfold closedL at h
 rw [List.all_eq_true] at h
 have := h i (List.mem_range.2 (Array.getElem?_eq_some_iff.1 hop).1)
 rw [hop] at this
 simp only [hi, Bool.not_true, Bool.false_or, List.all_eq_true] at this
 have := this e (by simpa using he)
 simpa [hb] using this
def phaseOk (ops : Array Oper) (F : List Nat) (c : Nat) (l0 : Array Bool) (S : List (Array Bool)) : Bool :=
 inS S l0 && (F.all fun i => !l0.getD i false) && S.all fun L => Nat.beq L.size ops.size && closedL ops L && (Region.ready .any ops L).all fun i => Nat.beq i c || (memN i F && inS S (L.setIfInBounds i true))
theorem cntF_set {L : Array Bool} {i : Nat} (hi : L.getD i true = false) : cntF L = cntF (L.setIfInBounds i true) + 1 := by
 have hlt : i < L.size := by
  rw [Array.getD_eq_getD_getElem?] at hi
  rcases Nat.lt_or_ge i L.size with h | h
  ·exact h
  ·rw [Array.getElem?_eq_none h] at hi; cases hi
 have hv : L.toList[i]? = some false := by
  rw [Array.getD_eq_getD_getElem?, Array.getElem?_eq_getElem hlt] at hi
  rw [Array.getElem?_toList, Array.getElem?_eq_getElem hlt]
  simpa using hi
 unfold cntF
 rw [Array.toList_setIfInBounds]
 generalize L.toList = l at hv
 clear hi hlt
 induction l generalizing i with
 | nil => simp at hv
 | cons a l ih =>
   cases i with
   | zero =>
     simp at hv
     subst hv
     simp [List.countP_cons]
   | succ i =>
     simp at hv
     have := ih hv
     simp only [List.set_cons_succ, List.countP_cons]
     omega
theorem wpOp_of {ops : Array Oper} {k : List K} {fuel i : Nat} {listed : Array Bool} {op : Oper} (hop : ops[i]? = some op) (hk : KW P [.ops ops [op]] .normal A fun e A' => e = .normal /\ KA P ops k Q fuel listed A')
  {o0 : Nat -> Tag} {w0 : World} (hs : Sat o h A tm w) (hx : Ext o0 w0 o w) : wpOp P ops (fun e a w' => kq P (lift Q o0 w0) k e a w') i (fun a w' => wpAny P .any ops (kq P (lift Q o0 w0) k) fuel listed a w') ⟨tm, []⟩ w := by
 have h1 := hk o h tm w hs
 replace h1 : wpList P ops (lift (fun e A' => e = .normal /\ KA P ops k Q fuel listed A') o w) [op] ⟨tm, []⟩ w := h1
 have hnx : ∀ a w', lift (fun e A' => e = Exit.normal /\ KA P ops k Q fuel listed A') o w .normal a w' -> wpAny P .any ops (kq P (lift Q o0 w0) k) fuel listed a w' := by
  rintro ⟨tm', d⟩ w' ⟨hd, o', h', A', ⟨_, hka⟩, hs', hx'⟩
  simp only at hd hs'
  subst hd
  exact hka o0 w0 o' h' tm' w' hs' (hx.trans hx')
 unfold wpOp
 rw [hop]
 simp only
 unfold wpList at h1
 split
 ·rename_i hw
  rw [if_pos hw] at h1
  rcases h1 with h1 | ⟨_, a', w', h2⟩
  ·refine .inl (upon_out (fun a w' h => hnx a w' (by unfold wpList at h; exact h)) (fun e a w' hne' hq => ?_) h1)
   obtain ⟨_, _, _, _, ⟨e0, _⟩, _⟩ := hq
   exact absurd e0 hne'
  ·obtain ⟨_, _, _, _, ⟨e0, _⟩, _⟩ := h2
   cases e0
 ·rename_i hw
  rw [if_neg hw] at h1
  exact hnx _ _ (by unfold wpList at h1; exact h1)
theorem pickL_nil {α : Type} {ls : Nat -> Bool} : ∀ {ps : List (List (Nat × α))} {k : Nat}, (∀ (j : Nat) (p : List (Nat × α)), ps[j]? = some p -> ls (k + j) = true -> p = []) -> pickL ls k ps = []
 | [], _, _ => rfl
 | p :: l, k, h => by
   have h0 : (if ls k then p else []) = [] := by
    split
    ·rename_i e; exact h 0 p rfl (by simpa using e)
    ·rfl
   rw [pickL, h0, pickL_nil (ps := l) (k := k + 1) fun j q hj hl => h (j + 1) q (by simpa using hj) (by rwa [show k + (j + 1) = k + 1 + j by omega])]
   rfl
theorem KA.phase (hl : LayOk P lay) (hT : FnsOk P fns) {ops : Array Oper} {k : List K} (F : List Nat) (c : Nat) {l0 : Array Bool} (hdep : depOk ops = true) (hS : phaseOk ops F c l0 (phaseS ops l0 F) = true)
  {prs : List Ent} {φ : Prop} (hg : phaseE lay fns ops A.rs A.n F ops.toList 0 A.sl True = some (prs, φ)) (hfr : freshV1 ops prs [] A ops.size 0 0 prs = true) (hφ : φ)
  {cs : List (Array Bool)} (hcs : ((phaseS ops l0 F).filter fun L => memN c (Region.ready .any ops L)) = cs)
  (hc : ∀ L ∈ cs, ∃ opc, ops[c]? = some opc /\ KW P [.ops ops [opc]] .normal ⟨A.n, pickL (fun j => L.getD j false) 0 (prs.map (·.1)) ++ A.sl, pickL (fun j => L.getD j false) 0 (prs.map (·.2)) ++ A.rs⟩ fun e A' => e = .normal /\ KA P ops k Q (cntF (L.setIfInBounds c true)) (L.setIfInBounds c true) A')
  {ds : List (Array Bool)} (hds : ((phaseS ops l0 F).filter fun L => (Region.ready .any ops L).isEmpty) = ds)
  (hd : ∀ L ∈ ds, KW P k .normal ⟨A.n, pickL (fun j => L.getD j false) 0 (prs.map (·.1)) ++ A.sl, pickL (fun j => L.getD j false) 0 (prs.map (·.2)) ++ A.rs⟩ Q) : KA P ops k Q (cntF l0) l0 A := by
 obtain ⟨_, hlen, hprs⟩ := phaseE_spec hg hφ
 have dep := depOk_ok hdep
 have hlen' : prs.length = ops.size := by simpa using hlen
 generalize hSe : phaseS ops l0 F = S at *
 unfold phaseOk at hS
 simp only [Bool.and_eq_true] at hS
 obtain ⟨⟨hS0, hF0⟩, hS1⟩ := hS
 rw [List.all_eq_true] at hF0 hS1
 have hop : ∀ (i : Nat) op, ops[i]? = some op -> if memN i F = true then ∃ d y rn ψ, prs[i]? = some ([(d, y)], rn) /\ op.dst = some d /\ Nat.blt d A.n = true /\ stepZ lay fns ⟨A.n, pickS (slotsE (prs.take i) ++ A.sl) (looks ops op), A.rs⟩ ops op A.n = some (y, rn, ψ) /\ ψ
   else prs[i]? = some ([], []) := fun i op hi => by
  have := hprs i op (by simpa using hi)
  simpa only [Nat.zero_add] using this
 have hent : ∀ (j : Nat) (p : Ent), prs[j]? = some p -> ∃ op, ops[j]? = some op /\ (∀ t x, (t, x) ∈ p.1 -> memN j F = true /\ op.dst = some t /\ p.1 = [(t, x)]) /\ ∀ t r, (t, r) ∈ p.2 -> memN j F = true /\ op.dst = some t /\ ∃ y, p.1 = [(t, y)] := fun j p hj => by
  have hlt : j < ops.size := by rw [<-hlen']; exact (List.getElem?_eq_some_iff.1 hj).1
  refine ⟨ops[j], Array.getElem?_eq_getElem hlt, ?_⟩
  have h1 := hop j ops[j] (Array.getElem?_eq_getElem hlt)
  split at h1
  ·rename_i e
   obtain ⟨d, y, rn, ψ, g1, g2, g3, g4, g5⟩ := h1
   rw [hj] at g1
   cases g1
   refine ⟨fun t x hm => ?_, fun t r hm => ?_⟩
   ·simp only [List.mem_singleton, Prod.mk.injEq] at hm
    obtain ⟨rfl, rfl⟩ := hm
    exact ⟨e, g2, rfl⟩
   ·rcases stepZ_shape g2 g4 with e' | ⟨r', e'⟩
    ·rw [e'] at hm; cases hm
    ·rw [e'] at hm
     simp only [List.mem_singleton, Prod.mk.injEq] at hm
     obtain ⟨rfl, rfl⟩ := hm
     exact ⟨e, g2, y, rfl⟩
  ·rw [hj] at h1
   cases h1
   exact ⟨fun t x hm => (by cases hm), fun t r hm => (by cases hm)⟩
 have huS : ∀ (j j' : Nat) (p p' : Ent) (t : Nat) (x x' : SV), prs[j]? = some p -> prs[j']? = some p' -> (t, x) ∈ p.1 -> (t, x') ∈ p'.1 -> j = j' /\ x' = x := fun j j' p p' t x x' hj hj' hm hm' => by
  obtain ⟨o1, h1, h2, _⟩ := hent j p hj
  obtain ⟨o2, h3, h4, _⟩ := hent j' p' hj'
  have e := dep.dist j j' o1 o2 t h1 h3 (h2 t x hm).2.1 (h4 t x' hm').2.1
  subst e
  rw [hj] at hj'
  cases hj'
  refine ⟨rfl, ?_⟩
  rw [(h2 t x hm).2.2] at hm'
  simpa using hm'
 have hapS : ApartL (prs.map (·.1)) := by
  intro i j q q' hij hi hj t r r' hm hm'
  obtain ⟨p, h1, rfl⟩ := mapGet hi
  obtain ⟨p', h2, rfl⟩ := mapGet hj
  exact hij (huS i j p p' t r r' h1 h2 hm hm').1
 have huM : ∀ (j j' : Nat) (p p' : Ent) (t : Nat) (x x' : Res), prs[j]? = some p -> prs[j']? = some p' -> (t, x) ∈ p.2 -> (t, x') ∈ p'.2 -> j = j' := fun j j' p p' t x x' hj hj' hm hm' => by
  obtain ⟨o1, h1, _, h2⟩ := hent j p hj
  obtain ⟨o2, h3, _, h4⟩ := hent j' p' hj'
  exact dep.dist j j' o1 o2 t h1 h3 (h2 t x hm).2.1 (h4 t x' hm').2.1
 have hapM : ApartL (prs.map (·.2)) := by
  intro i j q q' hij hi hj t r r' hm hm'
  obtain ⟨p, h1, rfl⟩ := mapGet hi
  obtain ⟨p', h2, rfl⟩ := mapGet hj
  exact hij (huM i j p p' t r r' h1 h2 hm hm')
 have hnew : ∀ (j : Nat) (p : Ent) (t : Nat) (r : Res), prs[j]? = some p -> (t, r) ∈ p.2 -> freshE ops t j 0 prs = true /\ (freshS t A.sl = true /\ freshR t A.rs = true) := fun j p t r hj hm => by
  obtain ⟨op, h1, h3, h4⟩ := hent j p hj
  obtain ⟨h5, h6, y, h7⟩ := h4 t r hm
  have e : p = ((t, y) :: [], p.2) := Prod.ext h7 rfl
  have := freshV1_ok hfr j t y [] p.2 (by rw [hj, <-e]) (.inr fun e' => by rw [e'] at hm; cases hm)
  rw [Nat.zero_add] at this
  exact ⟨this.1, this.2.1⟩
 let SL : (Nat -> Bool) -> List (Nat × SV) := fun ls => pickL ls 0 (prs.map (·.1)) ++ A.sl
 let RS : (Nat -> Bool) -> List (Nat × Res) := fun ls => pickL ls 0 (prs.map (·.2)) ++ A.rs
 have hSLin : ∀ (ls : Nat -> Bool) (j : Nat) (p : Ent) (t : Nat) (x : SV), prs[j]? = some p -> (t, x) ∈ p.1 -> ls j = true -> lk (SL ls) t = some x := fun ls j p t x hj hm hls => by
  refine pickL_in (k := 0) (i := j) (p := p.1) (by rw [List.getElem?_map, hj]; rfl) (by simpa using hls) ?_ fun j' q hne hq r' hm' => ?_
  ·obtain ⟨r, hr⟩ := lkA_of hm
   rw [hr, (huS j j p p t x r hj hj hm (lkM hr)).2]
  ·obtain ⟨p', h2, rfl⟩ := mapGet hq
   exact hne (huS j j' p p' t x r' hj h2 hm hm').1.symm
 have hSLout : ∀ (ls : Nat -> Bool) (t : Nat), (∀ (j : Nat) (p : Ent) (x : SV), prs[j]? = some p -> ls j = true -> (t, x) ∉ p.1) -> lk (SL ls) t = lk A.sl t := fun ls t hno =>
  pickL_out fun j q hq hls r hm => by
   obtain ⟨p', h2, rfl⟩ := mapGet hq
   exact hno j p' r h2 hls hm
 have hPMout : ∀ (ls : Nat -> Bool) (t : Nat), (∀ (j : Nat) (p : Ent) (x : Res), prs[j]? = some p -> ls j = true -> (t, x) ∉ p.2) -> lk (RS ls) t = lk A.rs t := fun ls t hno =>
  pickL_out fun j q hq hls r hm => by
   obtain ⟨p', h2, rfl⟩ := mapGet hq
   exact hno j p' r h2 hls hm
 have hPMbase : ∀ (ls : Nat -> Bool) (t : Nat) (r : Res), lk A.rs t = some r -> lk (RS ls) t = some r := fun ls t r hr => by
  rw [hPMout ls t fun j p x hj _ hm => ?_]
  ·exact hr
  ·exact (freshR_mem (hnew j p t x hj hm).2.2 (lk_mem hr)).1 rfl
 intro o0 w0 o h tm w hs hx0
 have main : ∀ (fuel : Nat) (L : Array Bool) (o' : Nat -> Tag) (h' : Nat -> Value) (tm' : Array Value) (w' : World), L ∈ S -> cntF L = fuel ->
   Sat o' h' ⟨A.n, SL (fun j => L.getD j false), RS (fun j => L.getD j false)⟩ tm' w' -> Ext o0 w0 o' w' -> wpAny P .any ops (kq P (lift Q o0 w0) k) fuel L ⟨tm', []⟩ w' := by
  intro fuel
  have fin : ∀ (f : Nat) (L : Array Bool) (o' : Nat -> Tag) (h' : Nat -> Value) (tm' : Array Value) (w' : World), L ∈ S -> Region.ready .any ops L = [] ->
    Sat o' h' ⟨A.n, SL (fun j => L.getD j false), RS (fun j => L.getD j false)⟩ tm' w' -> Ext o0 w0 o' w' -> wpAny P .any ops (kq P (lift Q o0 w0) k) f L ⟨tm', []⟩ w' := fun f L o' h' tm' w' hL hr hs' hx => by
   have hLd : L ∈ ds := by
    rw [<-hds, List.mem_filter]
    exact ⟨hL, by rw [hr]; rfl⟩
   exact wpAny_done hr (kq_mono (lift_trans hx) k .normal _ w' (hd L hLd o' h' tm' w' hs')) f
  induction fuel with
  | zero =>
    intro L o' h' tm' w' hL hcn hs' hx
    refine fin 0 L o' h' tm' w' hL ?_ hs' hx
    cases hr : Region.ready .any ops L with
    | nil => rfl
    | cons i l =>
      exfalso
      have := cntF_set (mem_ready.1 (hr ▸ List.mem_cons_self : i ∈ Region.ready .any ops L)).1
      omega
  | succ fuel ih =>
    intro L o' h' tm' w' hL hcn hs' hx
    by_cases hne0 : Region.ready .any ops L = []
    ·exact fin _ L o' h' tm' w' hL hne0 hs' hx
    have hck := hS1 L hL
    simp only [Bool.and_eq_true] at hck
    obtain ⟨⟨hsz, hcl0⟩, hrd⟩ := hck
    have hsz := Nat.eq_of_beq_eq_true hsz
    have hcl := closedL_ok hcl0
    rw [List.all_eq_true] at hrd
    refine wpAny_all rfl hne0 fun i hi => ?_
    obtain ⟨hun, op, hop', haft⟩ := mem_ready.1 hi
    have hlt : i < ops.size := (Array.getElem?_eq_some_iff.1 hop').1
    have hun' : L.getD i false = false := by
     rw [Array.getD_eq_getD_getElem?, Array.getElem?_eq_getElem (by omega)] at hun ⊢
     exact hun
    have hcn' : cntF (L.setIfInBounds i true) = fuel := by have := cntF_set hun; omega
    have h1 := hrd i hi
    rw [Bool.or_eq_true] at h1
    by_cases hic : i = c
    ·subst hic
     have hLc : L ∈ cs := by
      rw [<-hcs, List.mem_filter]
      exact ⟨hL, memN_of hi⟩
     obtain ⟨opc, hopc, hkc⟩ := hc L hLc
     have := wpOp_of hopc hkc hs' hx
     rw [hcn'] at this
     exact this
    ·have h2 : memN i F = true /\ inS S (L.setIfInBounds i true) = true := by
      rcases h1 with h1 | h1
      ·exact absurd (Nat.eq_of_beq_eq_true h1) hic
      ·simpa using h1
     obtain ⟨hiF, hin⟩ := h2
     have h1 := hop i op hop'
     rw [if_pos hiF] at h1
     obtain ⟨d, y, rn, ψ, g1, g2, g3, g4, g5⟩ := h1
     have hsl : ∀ t x, lk (pickS (slotsE (prs.take i) ++ A.sl) (looks ops op)) t = some x -> lk (SL (fun j => L.getD j false)) t = some x := fun t x hl => by
      obtain ⟨e1, hm⟩ := pickS_lk hl
      by_cases hex : ∃ (j : Nat) (p : Ent) (y : SV), prs[j]? = some p /\ (t, y) ∈ p.1
      ·obtain ⟨j, p, y', hj, hy⟩ := hex
       obtain ⟨oj, hoj, hdj, _⟩ := hent j p hj
       rcases dep.look i j op oj t hop' hoj (hdj t y' hy).2.1 hm with ⟨hji, e, he, hb, heq⟩ | ⟨hij, e, he, hb, heq⟩
       ·have hlj : L.getD j false = true := by rw [<-heq]; exact haft e he hb
        rw [lkU (slotsE_mem.2 ⟨j, p, by rw [List.getElem?_take, if_pos hji]; exact hj, hy⟩) fun y'' hy'' => (by
         obtain ⟨j', p', hj', hm'⟩ := slotsE_mem.1 hy''
         rw [List.getElem?_take] at hj'
         split at hj'
         ·exact (huS j j' p p' t y' y'' hj hj' hy hm').2
         ·cases hj')] at e1
        cases e1
        exact hSLin _ j p t _ hj hy (by simpa using hlj)
       ·have hlj : L.getD j false = false := by
         cases hlj : L.getD j false with
         | false => rfl
         | true =>
           have := hcl j oj hoj hlj e he hb
           rw [heq, hun'] at this
           cases this
        rw [lkA_none fun y'' hy'' => (by
         obtain ⟨j', p', hj', hm'⟩ := slotsE_mem.1 hy''
         rw [List.getElem?_take] at hj'
         split at hj'
         ·have := (huS j j' p p' t y' y'' hj hj' hy hm').1
          omega
         ·cases hj')] at e1
        rw [hSLout _ t fun j' p' x' hj' hls hm' => (by
         have := (huS j j' p p' t y' x' hj hj' hy hm').1
         subst this
         rw [hlj] at hls; cases hls)]
        exact e1
      ·rw [lkA_none fun y'' hy'' => (by
        obtain ⟨j', p', hj', hm'⟩ := slotsE_mem.1 hy''
        rw [List.getElem?_take] at hj'
        split at hj'
        ·exact hex ⟨j', p', y'', hj', hm'⟩
        ·cases hj')] at e1
       rw [hSLout _ t fun j' p' x' hj' hls hm' => hex ⟨j', p', x', hj', hm'⟩]
       exact e1
     have hget : ∀ j, (L.setIfInBounds i true).getD j false = if j = i then true else L.getD j false := fun j => by
      by_cases hji : j = i
      ·subst hji
       rw [if_pos rfl, Array.getD_eq_getD_getElem?, Array.getElem?_setIfInBounds_self]
       simp [hsz, hlt]
      ·rw [if_neg hji, getD_set_ne false (Ne.symm hji)]
     have hfr' : rn ≠ [] -> freshB ⟨A.n, SL (fun j => L.getD j false), RS (fun j => L.getD j false)⟩ d = true := fun hne => by
      obtain ⟨r, hr⟩ : ∃ r, (d, r) ∈ rn := by
       rcases stepZ_shape g2 g4 with e | ⟨r', e⟩
       ·exact absurd e hne
       ·exact ⟨r', by rw [e]; exact .head _⟩
      have hf := hnew i _ d r g1 hr
      refine fresh_super hf.2.1 hf.2.2 (fun t x hm => ?_) (fun t r' hm => ?_)
      ·obtain ⟨j, q, hj, hlj, hm'⟩ := pickL_mem hm
       obtain ⟨p', hj', rfl⟩ := mapGet hj
       exact menL_ok (freshE_ok hf.1 j p' hj' (by intro e; rw [Nat.zero_add] at e hlj; subst e; rw [hun'] at hlj; cases hlj) (by
        rw [Nat.zero_add] at hlj ⊢
        cases hbo : bindsOn ops j i with
        | false => rfl
        | true =>
          have := waitsFor_ok (ls := fun j => L.getD j false) hcl hbo hlj
          rw [hun'] at this; cases this)).1 t x hm'
      ·obtain ⟨j, q, hj, hlj, hm'⟩ := pickL_mem hm
       obtain ⟨p', hj', rfl⟩ := mapGet hj
       exact freshR_mem (freshE_ok hf.1 j p' hj' (by intro e; rw [Nat.zero_add] at e hlj; subst e; rw [hun'] at hlj; cases hlj) (by
        rw [Nat.zero_add] at hlj ⊢
        cases hbo : bindsOn ops j i with
        | false => rfl
        | true =>
          have := waitsFor_ok (ls := fun j => L.getD j false) hcl hbo hlj
          rw [hun'] at this; cases this)).2 hm'
     refine stepZ_wp hl hT hop' (A := ⟨A.n, SL (fun j => L.getD j false), RS (fun j => L.getD j false)⟩) (B := ⟨A.n, pickS (slotsE (prs.take i) ++ A.sl) (looks ops op), A.rs⟩) ⟨rfl, fun t r hr => hPMbase _ t r hr, hsl⟩ hs' g2 g3 g4 g5 hfr' fun o2 h2 v w1 hs2 hext => ?_
     refine ih (L.setIfInBounds i true) o2 h2 _ w1 (inS_ok hin) hcn' ⟨hs2.size, hs2.tags, fun t x hlk => hs2.slot t x ?_, fun t r hlk => hs2.res t r ?_⟩ (hx.trans hext)
     ·exact pickL_step (p := [(d, y)]) hapS (by rw [List.getElem?_map, g1]; rfl) (by simp [hget]) (fun j hj => by simp [hget, hj]) hlk
     ·exact pickL_step (p := rn) hapM (by rw [List.getElem?_map, g1]; rfl) (by simp [hget]) (fun j hj => by simp [hget, hj]) hlk
 have hl0 : ∀ (j : Nat), memN j F = true -> l0.getD j false = false := fun j hj => by
  have := hF0 j (memN_yes hj)
  simpa using this
 have e1 : SL (fun j => l0.getD j false) = A.sl := by
  show pickL _ 0 _ ++ A.sl = _
  rw [pickL_nil fun j q hj hls => ?_]
  ·rfl
  ·obtain ⟨p, h1, rfl⟩ := mapGet hj
   obtain ⟨op, h2, h3, h4⟩ := hent j p h1
   cases hp : p.1 with
   | nil => rfl
   | cons a l =>
     have := (h3 a.1 a.2 (by rw [hp]; exact .head _)).1
     rw [Nat.zero_add] at hls
     rw [hl0 j this] at hls; cases hls
 have e2 : RS (fun j => l0.getD j false) = A.rs := by
  show pickL _ 0 _ ++ A.rs = _
  rw [pickL_nil fun j q hj hls => ?_]
  ·rfl
  ·obtain ⟨p, h1, rfl⟩ := mapGet hj
   obtain ⟨op, h2, h3, h4⟩ := hent j p h1
   cases hp : p.2 with
   | nil => rfl
   | cons a l =>
     have := (h4 a.1 a.2 (by rw [hp]; exact .head _)).1
     rw [Nat.zero_add] at hls
     rw [hl0 j this] at hls; cases hls
 refine main (cntF l0) l0 o h tm w (inS_ok hS0) rfl ?_ hx0
 rw [e1, e2]
 exact hs
theorem KW.phases {k k' : List K} {e : Exit} (hl : LayOk P lay) (hT : FnsOk P fns) (hm : P.follows .mixedOrders = true) (f : Nat) {id : Nat} {ops : Array Oper} {φ : Prop} (h : run2 lay fns f k e A True = (.code (.region id ops true) :: k', .normal, A', φ)) (hφ : φ)
  (hn : KA P ops k' Q (cntF (Array.replicate ops.size false)) (Array.replicate ops.size false) A') : KW P k e A Q := by
 refine KW.go hl hT f h hφ (KW.orders hm ?_)
 have : cntF (Array.replicate ops.size false) = ops.size := by simp [cntF, Array.toList_replicate, List.countP_replicate]
 rwa [this] at hn
theorem KW.skipD {k : List K} {all : Array Oper} {op : Oper} {rest : List Oper} {j : Nat} {want b : Bool} {d : Nat} (x : EV) (hg : op.guard = some (j, want)) (hb : gdOf A all j want = some b) (hf : b = false) (hd : op.dst = some d) (hlt : Nat.blt d A.n = true)
  (hn : KW P (.ops all rest :: k) .normal ⟨A.n, (d, .e (.gd b x)) :: A.sl, A.rs⟩ Q) : KW P (.ops all (op :: rest) :: k) .normal A Q := by
 intro o h tm w hs
 show wpList P all (kq P (lift Q o w) k) (op :: rest) ⟨tm, []⟩ w
 unfold wpList
 have hput : ∀ v, (⟨tm, []⟩ : Act).put op.dst v = ⟨tm.setIfInBounds d v, []⟩ := fun v => by simp [Act.put, hd]
 have hy := gdOf_false hs hb hf
 rw [if_neg (by simp [Region.wanted, hg, hy])]
 show wpList P all (kq P (lift Q o w) k) rest ((⟨tm, []⟩ : Act).put op.dst undef) w
 rw [hput]
 exact hn o h _ w (hs.put (by simpa [Nat.blt, Nat.succ_le_iff] using hlt) (v := undef) ⟨fun e => absurd (hf.symm.trans e) Bool.false_ne_true, fun _ => rfl⟩)
end
end Go.Sy
end
section
namespace Go.Sy
open Go.Pu
variable [Drw]
def leavesC (xs : List LeafP) : CV := rows 3 leafC leaf0 xs
end Go.Sy
namespace Go.Proofs.YtocnofkagckhkaaGreatDoor.Tr
open Go.Sy Go.Pu
variable [Drw]
abbrev ckR (c vars : Int) (b : Nat) : List (Nat × Res) := [(0, .box 123 [iV c, iV vars] (some b))]
theorem node_does (vars : Int) (h24 : vars ≤ 24) (t : Tr) : ∀ (a c : Int) (b : Nat), 0 ≤ c -> c ≤ 4096 -> DoesF Tryz.prog 72 [.r 0, trV t, iV a] (ckR c vars b) (.e (eV (chkT vars t a c).2)) (ckR (chkT vars t a c).1 vars b) := by
 induction t using Tr.ind with
 | h t ih =>
   intro a c b h0 h1
   rw [chkT_eq]
   refine DoesF.body _ Tryz.func72 rfl rfl rfl rfl ?_
   refine KW.open 1 t rfl ?_
   refine KW.goIf lay_ok T9_ok 100 rfl (by simp [inK]; omega) rfl trivial (fun h => ?_) fun h => ?_
   ·have hc : 4096 < c + 1 := by simpa using h
    have e : (if t.n = 2 then chkTN vars t (chkT vars (t.k 0)) (chkT vars (t.k 1)) else chkTL t) a c = (c + 1, 4) := by
     split <;> simp [chkTN, chkTL, hc]
    rw [e]
    exact KW.goRetR lay_ok T9_ok 100 rfl [(0, 0)] rfl rfl rfl (by simp) (by exact ⟨rfl, trivial⟩)
   have hc : ¬ 4096 < c + 1 := by simpa using h
   refine KW.goIf lay_ok T9_ok 100 rfl (by simp) rfl trivial (fun h => ?_) fun h => ?_
   ·have h2 : t.n ≠ 0 /\ t.n ≠ 2 := by simp at h; omega
    rw [if_neg h2.2, show chkTL t a c = (c + 1, 11) by simp [chkTL, hc, h2.1]]
    exact KW.goRetR lay_ok T9_ok 100 rfl [(0, 0)] rfl rfl rfl (by simp) (by exact ⟨rfl, trivial⟩)
   have h2 : t.n = 0 ∨ t.n = 2 := by simp at h; omega
   refine KW.goIf lay_ok T9_ok 100 rfl (by simp) rfl trivial (fun h => ?_) fun h => ?_
   ·have h3 : t.n = 0 := by simpa using h
    rw [if_neg (by omega)]
    refine KW.goIf lay_ok T9_ok 100 rfl (by simp) rfl trivial (fun h => ?_) fun h => ?_
    ·have h4 : t.v ≠ 0 := by simpa using h
     rw [show chkTL t a c = (c + 1, 2) by simp [chkTL, hc, h3, h4]]
     exact KW.goRetR lay_ok T9_ok 100 rfl [(0, 0)] rfl rfl rfl (by simp) (by exact ⟨rfl, trivial⟩)
    ·have h4 : t.v = 0 := by simpa using h
     rw [show chkTL t a c = (c + 1, 0) by simp [chkTL, hc, h3, h4]]
     exact KW.goRetR lay_ok T9_ok 100 rfl [(0, 0)] rfl rfl rfl (by simp) (by exact ⟨rfl, trivial⟩)
   have h3 : t.n = 2 := by simp at h; omega
   rw [if_pos h3]
   unfold chkTN
   rw [if_neg hc]
   refine KW.goD lay_ok T9_ok rfl 100 rfl (by decide +kernel) rfl (by simp) (by simp) ?_
   refine KW.goIf lay_ok T9_ok 100 rfl (by simp) rfl trivial (fun h => ?_) fun h => ?_
   ·have h4 : t.v < 0 ∨ vars ≤ t.v := by simp at h; omega
    rw [if_pos h4]
    exact KW.goRetR lay_ok T9_ok 100 rfl [(0, 0)] rfl rfl rfl (by simp) (by exact ⟨rfl, trivial⟩)
   have h4 : ¬ (t.v < 0 ∨ vars ≤ t.v) := by simp at h; omega
   rw [if_neg h4]
   refine KW.goIf lay_ok T9_ok 100 rfl (by simp [bitsI]; omega) rfl trivial (fun h => ?_) fun h => ?_
   ·have h5 : bitB a t.v = true := h
    rw [if_pos h5]
    exact KW.goRetR lay_ok T9_ok 100 rfl [(0, 0)] rfl rfl rfl (by simp) (by exact ⟨rfl, trivial⟩)
   have h5 : ¬ bitB a t.v = true := by rw [show bitB a t.v = false from h]; decide
   rw [if_neg h5]
   refine KW.goIf lay_ok T9_ok 100 rfl (by simp) rfl trivial (fun h => ?_) fun h => ?_
   ·have h6 : t.r ≠ 0 := by simpa using h
    rw [if_pos h6]
    exact KW.goRetR lay_ok T9_ok 100 rfl [(0, 0)] rfl rfl rfl (by simp) (by exact ⟨rfl, trivial⟩)
   have h6 : ¬ t.r ≠ 0 := by simpa using h
   rw [if_neg h6]
   have ih0 := ih 0 (by omega) (ior .i64 a (ishl 1 t.v))
   have ih1 := ih 1 (by omega) (ior .i64 a (ishl 1 t.v))
   have l0 := chkT_lt vars (t.k 0) (ior .i64 a (ishl 1 t.v)) (c + 1) (by omega)
   have one := shl_rng24 (v := t.v) (by omega) (by omega)
   generalize hX : chkT vars (t.k 0) (ior .i64 a (ishl 1 t.v)) (c + 1) = X at *
   refine KW.goLpR lay_ok T9_ok 100 rfl (I := fun q : Nat × Int => ⟨Tryz.f72.ntmps, [(0, .e (.r 0)), (2, sI a), (4, .e (.r 4)), (73, .e (.c t.ksx)), (74, sI t.n), (75, sI q.1)], [(0, .box 123 [iV q.2, iV vars] (some b)), (4, .box 28 [iV t.v, .c t.ksx, iV t.r] none)]⟩)
    (R := fun q => (q.1 = 0 /\ q.2 = c + 1) ∨ (q.1 = 1 /\ X.2 = 0 /\ q.2 = X.1) ∨ (q.1 = 2 /\ X.2 = 0 /\ chkT vars (t.k 1) (ior .i64 a (ishl 1 t.v)) X.1 = (q.2, 0))) (m := fun q => 2 - q.1) (0, c + 1) [(0, 0), (4, 4)] rfl rfl ⟨rfl, rfl, rfl, rfl, rfl, rfl, trivial⟩ (by simp) (.inl ⟨rfl, rfl⟩) (by exact ⟨rfl, rfl, trivial⟩) ?_
   rintro ⟨q, d⟩ hq
   simp only at hq
   refine KW.goIf lay_ok T9_ok 100 rfl (by simp) rfl trivial (fun h => ?_) fun h => ?_
   ·have hq2 : q < 2 := by rw [h3] at h; simp at h; omega
    have hck : (q = 0 /\ d = c + 1) ∨ (q = 1 /\ X.2 = 0 /\ d = X.1) := by omega
    have hd : 0 ≤ d /\ d ≤ 4096 := by rcases hck with ⟨_, e⟩ | ⟨_, e, e'⟩ <;> omega
    have hk : ∃ i, i < t.n /\ q = i := ⟨q, by omega, rfl⟩
    refine KW.goDS lay_ok T9_ok rfl 100 rfl 7 rfl (by decide +kernel) (by decide +kernel) rfl (by simp; omega) (by simp [inK, bitsI]; omega) ?_
    rcases hck with ⟨rfl, rfl⟩ | ⟨rfl, hX0, rfl⟩
    ·have D := ih0 (c + 1) b (by omega) (by omega)
     rw [hX] at D
     refine KW.call0 D (enters Tryz.func72 rfl rfl) [(0, 0)] [(0, 0)] [] (.inl rfl) rfl rfl rfl rfl rfl trivial
      ⟨⟨_, _, rfl, trivial, (show Mt _ _ _ (EV.ren [(0, 0)] (.r 0)) (.r 0) from .same)⟩, ⟨_, _, rfl, trivial, (show Mt _ _ _ (EV.ren [(0, 0)] (trV (t.k 0))) (trV (t.k 0)) from .same)⟩, ⟨_, _, rfl, trivial, .conv (CVEq.refl _)⟩, trivial⟩ rfl ⟨rfl, trivial⟩ rfl ⟨.inr ⟨rfl, .inr ⟨_, _, _, _, b, rfl, rfl⟩⟩, trivial⟩ rfl rfl (.inl rfl) ?_
     refine KW.goIf lay_ok T9_ok 100 rfl (by simp) rfl trivial (fun h => ?_) fun h => ?_
     ·have h7 : X.2 ≠ 0 := by simpa using h
      rw [if_pos h7]
      refine KW.goOutR lay_ok T9_ok 100 rfl (by simp) ?_
      exact KW.goRetR lay_ok T9_ok 100 rfl [(0, 0)] rfl rfl rfl (by simp) (by exact ⟨rfl, trivial⟩)
     ·have h7 : X.2 = 0 := by simpa using h
      exact KW.goToR lay_ok T9_ok 100 rfl (1, X.1) [(0, 0), (4, 4)] rfl rfl ⟨rfl, rfl, rfl, rfl, rfl, rfl, trivial⟩ (by simp [inK]) ⟨.inr (.inl ⟨rfl, h7, rfl⟩), by simp only; omega⟩ ⟨rfl, rfl, trivial⟩
    ·have D := ih1 X.1 b (by omega) (by omega)
     have l1 := chkT_lt vars (t.k 1) (ior .i64 a (ishl 1 t.v)) X.1 (by omega)
     rw [if_neg (fun e => e hX0)]
     generalize hY : chkT vars (t.k 1) (ior .i64 a (ishl 1 t.v)) X.1 = Y at *
     refine KW.call0 D (enters Tryz.func72 rfl rfl) [(0, 0)] [(0, 0)] [] (.inl rfl) rfl rfl rfl rfl rfl trivial
      ⟨⟨_, _, rfl, trivial, (show Mt _ _ _ (EV.ren [(0, 0)] (.r 0)) (.r 0) from .same)⟩, ⟨_, _, rfl, trivial, (show Mt _ _ _ (EV.ren [(0, 0)] (trV (t.k 1))) (trV (t.k 1)) from .same)⟩, ⟨_, _, rfl, trivial, .conv (CVEq.refl _)⟩, trivial⟩ rfl ⟨rfl, trivial⟩ rfl ⟨.inr ⟨rfl, .inr ⟨_, _, _, _, b, rfl, rfl⟩⟩, trivial⟩ rfl rfl (.inl rfl) ?_
     refine KW.goIf lay_ok T9_ok 100 rfl (by simp) rfl trivial (fun h => ?_) fun h => ?_
     ·have h7 : Y.2 ≠ 0 := by simpa using h
      refine KW.goOutR lay_ok T9_ok 100 rfl (by simp) ?_
      exact KW.goRetR lay_ok T9_ok 100 rfl [(0, 0)] rfl rfl rfl (by simp) (by exact ⟨rfl, trivial⟩)
     ·have h7 : Y.2 = 0 := by simpa using h
      exact KW.goToR lay_ok T9_ok 100 rfl (2, Y.1) [(0, 0), (4, 4)] rfl rfl ⟨rfl, rfl, rfl, rfl, rfl, rfl, trivial⟩ (by simp [inK]) ⟨.inr (.inr ⟨rfl, hX0, Prod.ext rfl h7⟩), by simp only; omega⟩ ⟨rfl, rfl, trivial⟩
   ·have hq2 : 2 ≤ q := by rw [h3] at h; simp at h; omega
    obtain ⟨rfl, hX0, hY⟩ : q = 2 /\ X.2 = 0 /\ chkT vars (t.k 1) (ior .i64 a (ishl 1 t.v)) X.1 = (d, 0) := by
     rcases hq with hq | hq | hq
     ·omega
     ·omega
     ·exact hq
    rw [if_neg (fun e => e hX0), hY]
    refine KW.goOut lay_ok T9_ok 100 rfl (by simp) ?_
    exact KW.goRetR lay_ok T9_ok 100 rfl [(0, 0)] rfl rfl rfl (by simp) (by exact ⟨rfl, trivial⟩)
theorem check_does (t : Tr) (vars : Int) : DoesF Tryz.prog 38 [trV t, iV vars] [] (.e (eV (splE t vars))) [] := by
 refine DoesF.body _ Tryz.func38 rfl rfl rfl rfl ?_
 unfold splE
 refine KW.goIf lay_ok T9_ok 100 rfl (by simp) rfl trivial (fun h => ?_) fun h => ?_
 ·have h1 : vars < 0 ∨ 24 < vars := by simp at h; omega
  rw [if_pos h1]
  exact KW.goRet lay_ok T9_ok 100 rfl rfl rfl (by simp) trivial
 ·have h1 : ¬ (vars < 0 ∨ 24 < vars) := by simp at h; omega
  rw [if_neg h1]
  refine KW.go lay_ok T9_ok 100 rfl (by simp) ?_
  refine KW.name 5 rfl fun b => ?_
  refine KW.call0 (node_does vars (by omega) t 0 0 b (by omega) (by omega)) (enters Tryz.func72 rfl rfl) [(0, 5)] [(0, 5)] [] (.inl rfl) rfl rfl rfl rfl rfl trivial
   ⟨⟨_, _, rfl, trivial, (show Mt _ _ _ (EV.ren [(0, 5)] (.r 0)) (.r 0) from .same)⟩, ⟨_, _, rfl, trivial, (show Mt _ _ _ (EV.ren [(0, 5)] (trV t)) (trV t) from .same)⟩, ⟨_, _, rfl, trivial, .conv (CVEq.refl _)⟩, trivial⟩ rfl ⟨rfl, trivial⟩ rfl ⟨.inr ⟨rfl, .inr ⟨_, _, _, _, b, rfl, rfl⟩⟩, trivial⟩ rfl rfl (.inl rfl) ?_
  exact KW.goRet lay_ok T9_ok 100 rfl rfl rfl (by simp) trivial
theorem walk_does (vars : Int) (h24 : vars ≤ 24) (t : Tr) : ∀ (a c : Int), 0 ≤ c -> c ≤ 4096 -> DoesF Tryz.prog 64 [trV t, iV vars, iV a, iV c] [] (.tup [iV (chkT vars t a c).1, iV (chkT vars t a c).2]) [] := by
 induction t using Tr.ind with
 | h t ih =>
   intro a c h0 h1
   have T_ok : FnsOk Tryz.prog ((64, fTIII (fun t' v' a' c' => .tup [iV (chkT vars t' a' c').1, iV (chkT vars t' a' c').2]) fun t' v' a' c' => (∃ i, i < t.n /\ t' = t.k i) /\ v' = vars /\ 0 ≤ c' /\ c' ≤ 4096) :: T9) :=
    .cons T9_ok Tryz.func64 rfl rfl (fTIII_ok fun t' v' a' c' h => by
     obtain ⟨⟨i, hi, rfl⟩, rfl, h3, h4⟩ := h
     exact ih i hi a' c' h3 h4)
   rw [chkT_eq]
   refine DoesF.body _ Tryz.func64 rfl rfl rfl rfl ?_
   refine KW.open 0 t rfl ?_
   refine KW.goIf lay_ok T_ok 100 rfl (by simp [inK]; omega) rfl trivial (fun h => ?_) fun h => ?_
   ·have hc : 4096 < c + 1 := by simpa using h
    have e : (if t.n = 2 then chkTN vars t (chkT vars (t.k 0)) (chkT vars (t.k 1)) else chkTL t) a c = (c + 1, 4) := by
     split <;> simp [chkTN, chkTL, hc]
    rw [e]
    exact KW.goRet lay_ok T_ok 100 rfl rfl rfl (by simp) trivial
   have hc : ¬ 4096 < c + 1 := by simpa using h
   refine KW.goIf lay_ok T_ok 100 rfl (by simp) rfl trivial (fun h => ?_) fun h => ?_
   ·have h2 : t.n ≠ 0 /\ t.n ≠ 2 := by simp at h; omega
    rw [if_neg h2.2, show chkTL t a c = (c + 1, 11) by simp [chkTL, hc, h2.1]]
    exact KW.goRet lay_ok T_ok 100 rfl rfl rfl (by simp) trivial
   have h2 : t.n = 0 ∨ t.n = 2 := by simp at h; omega
   refine KW.goIf lay_ok T_ok 100 rfl (by simp) rfl trivial (fun h => ?_) fun h => ?_
   ·have h3 : t.n = 0 := by simpa using h
    rw [if_neg (by omega)]
    refine KW.goIf lay_ok T_ok 100 rfl (by simp) rfl trivial (fun h => ?_) fun h => ?_
    ·have h4 : t.v ≠ 0 := by simpa using h
     rw [show chkTL t a c = (c + 1, 2) by simp [chkTL, hc, h3, h4]]
     exact KW.goRet lay_ok T_ok 100 rfl rfl rfl (by simp) trivial
    ·have h4 : t.v = 0 := by simpa using h
     rw [show chkTL t a c = (c + 1, 0) by simp [chkTL, hc, h3, h4]]
     exact KW.goRet lay_ok T_ok 100 rfl rfl rfl (by simp) trivial
   have h3 : t.n = 2 := by simp at h; omega
   rw [if_pos h3]
   unfold chkTN
   rw [if_neg hc]
   refine KW.goIf lay_ok T_ok 100 rfl (by simp) rfl trivial (fun h => ?_) fun h => ?_
   ·have h4 : t.v < 0 ∨ vars ≤ t.v := by simp at h; omega
    rw [if_pos h4]
    exact KW.goRet lay_ok T_ok 100 rfl rfl rfl (by simp) trivial
   have h4 : ¬ (t.v < 0 ∨ vars ≤ t.v) := by simp at h; omega
   rw [if_neg h4]
   refine KW.goIf lay_ok T_ok 100 rfl (by simp [bitsI]; omega) rfl trivial (fun h => ?_) fun h => ?_
   ·have h5 : bitB a t.v = true := h
    rw [if_pos h5]
    exact KW.goRet lay_ok T_ok 100 rfl rfl rfl (by simp) trivial
   have h5 : ¬ bitB a t.v = true := by rw [show bitB a t.v = false from h]; decide
   rw [if_neg h5]
   refine KW.goIf lay_ok T_ok 100 rfl (by simp) rfl trivial (fun h => ?_) fun h => ?_
   ·have h6 : t.r ≠ 0 := by simpa using h
    rw [if_pos h6]
    exact KW.goRet lay_ok T_ok 100 rfl rfl rfl (by simp) trivial
   have h6 : ¬ t.r ≠ 0 := by simpa using h
   rw [if_neg h6]
   have l0 := chkT_lt vars (t.k 0) (ior .i64 a (ishl 1 t.v)) (c + 1) (by omega)
   have one := shl_rng24 (v := t.v) (by omega) (by omega)
   generalize hX : chkT vars (t.k 0) (ior .i64 a (ishl 1 t.v)) (c + 1) = X at *
   refine KW.goLpR lay_ok T_ok 100 rfl (I := fun q : Nat × Int => ⟨Tryz.f64.ntmps, [(1, sI vars), (2, sI a), (3, sI q.2), (4, .e (.r 4)), (61, .e (.c t.ksx)), (62, sI t.n), (63, sI q.1)], [(4, .box 28 [iV t.v, .c t.ksx, iV t.r] none)]⟩)
    (R := fun q => (q.1 = 0 /\ q.2 = c + 1) ∨ (q.1 = 1 /\ X.2 = 0 /\ q.2 = X.1) ∨ (q.1 = 2 /\ X.2 = 0 /\ chkT vars (t.k 1) (ior .i64 a (ishl 1 t.v)) X.1 = (q.2, 0))) (m := fun q => 2 - q.1) (0, c + 1) [(4, 4)] rfl rfl ⟨rfl, rfl, rfl, rfl, rfl, rfl, rfl, trivial⟩ (by simp) (.inl ⟨rfl, rfl⟩) (by exact ⟨rfl, trivial⟩) ?_
   rintro ⟨q, d⟩ hq
   simp only at hq
   refine KW.goIf lay_ok T_ok 100 rfl (by simp) rfl trivial (fun h => ?_) fun h => ?_
   ·have hq2 : q < 2 := by rw [h3] at h; simp at h; omega
    have hck : (q = 0 /\ d = c + 1) ∨ (q = 1 /\ X.2 = 0 /\ d = X.1) := by omega
    have hd : 0 ≤ d /\ d ≤ 4096 := by rcases hck with ⟨_, e⟩ | ⟨_, e, e'⟩ <;> omega
    have hk : ∃ i, i < t.n /\ t.k q = t.k i := ⟨q, by omega, rfl⟩
    refine KW.goD lay_ok T_ok rfl 100 rfl (by decide +kernel) rfl (by simp; omega) ?_ ?_
    ·simp only [Int.toNat_natCast, Nat.zero_add, Tr.cell_1, unTr_cells, isKs_ks, true_and, and_true, inK, bitsI]
     exact ⟨by omega, hk, by omega⟩
    rcases hck with ⟨rfl, rfl⟩ | ⟨rfl, hX0, rfl⟩
    ·simp only [Int.toNat_natCast, Nat.zero_add, Tr.cell_1, unTr_cells, hX]
     refine KW.goIf lay_ok T_ok 100 rfl (by simp) rfl trivial (fun h => ?_) fun h => ?_
     ·have h7 : X.2 ≠ 0 := by simpa using h
      rw [if_pos h7]
      refine KW.goOutR lay_ok T_ok 100 rfl (by simp) ?_
      exact KW.goRet lay_ok T_ok 100 rfl rfl rfl (by simp) trivial
     ·have h7 : X.2 = 0 := by simpa using h
      exact KW.goToR lay_ok T_ok 100 rfl (1, X.1) [(4, 4)] rfl rfl ⟨rfl, rfl, rfl, rfl, rfl, rfl, rfl, trivial⟩ (by simp [inK]) ⟨.inr (.inl ⟨rfl, h7, rfl⟩), by simp only; omega⟩ ⟨rfl, trivial⟩
    ·have l1 := chkT_lt vars (t.k 1) (ior .i64 a (ishl 1 t.v)) X.1 (by omega)
     rw [if_neg (fun e => e hX0)]
     generalize hY : chkT vars (t.k 1) (ior .i64 a (ishl 1 t.v)) X.1 = Y at *
     simp only [Int.toNat_natCast, Nat.zero_add, Tr.cell_1, unTr_cells, hY]
     refine KW.goIf lay_ok T_ok 100 rfl (by simp) rfl trivial (fun h => ?_) fun h => ?_
     ·have h7 : Y.2 ≠ 0 := by simpa using h
      refine KW.goOutR lay_ok T_ok 100 rfl (by simp) ?_
      exact KW.goRet lay_ok T_ok 100 rfl rfl rfl (by simp) trivial
     ·have h7 : Y.2 = 0 := by simpa using h
      exact KW.goToR lay_ok T_ok 100 rfl (2, Y.1) [(4, 4)] rfl rfl ⟨rfl, rfl, rfl, rfl, rfl, rfl, rfl, trivial⟩ (by simp [inK]) ⟨.inr (.inr ⟨rfl, hX0, Prod.ext rfl h7⟩), by simp only; omega⟩ ⟨rfl, trivial⟩
   ·have hq2 : 2 ≤ q := by rw [h3] at h; simp at h; omega
    obtain ⟨rfl, hX0, hY⟩ : q = 2 /\ X.2 = 0 /\ chkT vars (t.k 1) (ior .i64 a (ishl 1 t.v)) X.1 = (d, 0) := by
     rcases hq with hq | hq | hq
     ·omega
     ·omega
     ·exact hq
    rw [if_neg (fun e => e hX0), hY]
    refine KW.goOut lay_ok T_ok 100 rfl (by simp) ?_
    exact KW.goRet lay_ok T_ok 100 rfl rfl rfl (by simp) trivial
def U1 : Fns := (38, fTI (fun t v => .e (eV (splE t v))) fun _ _ => True) ::
 (64, fTIII (fun t v a c => .tup [iV (chkT v t a c).1, iV (chkT v t a c).2]) fun t v a c => v ≤ 24 /\ 0 ≤ c /\ c ≤ 4096) ::
 T9
theorem U1_ok : FnsOk Tryz.prog U1 := .cons (.cons (T9_ok) Tryz.func64 rfl rfl (fTIII_ok fun t v a c h => walk_does v h.1 t a c h.2.1 h.2.2)) Tryz.func38 rfl rfl (fTI_ok fun t v _ => check_does t v)
theorem rcheck_does (t : Tr) (vars : Int) : DoesF Tryz.prog 33 [trV t, iV vars] [] (sI (splE t vars)) [] := by
 refine DoesF.body _ Tryz.func33 rfl rfl rfl rfl ?_
 unfold splE
 refine KW.goIf lay_ok U1_ok 100 rfl (by simp) rfl trivial (fun h => ?_) fun h => ?_
 ·have h1 : vars < 0 ∨ 24 < vars := by simp at h; omega
  rw [if_pos h1]
  exact KW.goRet lay_ok U1_ok 100 rfl rfl rfl (by simp) trivial
 ·have h1 : ¬ (vars < 0 ∨ 24 < vars) := by simp at h; omega
  rw [if_neg h1]
  refine KW.goRet lay_ok U1_ok 100 rfl rfl ?_ (by simp; omega) trivial
  simp [SV.ren, EV.ren]
def U2 : Fns := (33, fTI (fun t v => sI (splE t v)) fun _ _ => True) ::
 U1
theorem U2_ok : FnsOk Tryz.prog U2 := .cons (U1_ok) Tryz.func33 rfl rfl (fTI_ok fun t v _ => rcheck_does t v)
end Go.Proofs.YtocnofkagckhkaaGreatDoor.Tr
end
section
namespace Go.Proofs.YtocnofkagckhkaaGreatDoor.Tr
open Go.Sy Go.Pu
variable [Drw]
theorem gT_kids {t : Tr} (h : gT t) (h2 : t.n ≠ 0) : t.n = 2 /\ 0 ≤ t.v /\ t.v < 24 /\ t.r = 0 /\ gT (t.k 0) /\ gT (t.k 1) := by
 rw [gT_eq] at h
 split at h
 ·exact ⟨‹_›, h⟩
 ·exact absurd h.1 h2
def kidOf (t t' : Tr) : Prop := t' = t.k 0 ∨ t' = t.k 1
@[simp] theorem kid0 (t : Tr) : kidOf t (t.k 0) := .inl rfl
@[simp] theorem kid1 (t : Tr) : kidOf t (t.k 1) := .inr rfl
theorem two_rows (v : Int) (a b : Tr) : CVEq (rowsC 3 2 (trC a ++ trC b)) (Tr.two v a b).ks :=
 ⟨rfl, .inr ⟨rfl, fun e q he hq => by
  rw [Tr.kf_eq (t := Tr.two v a b) he]
  match e, he, q, hq with
  | 0, _, 0, _ => exact CVEq.refl _
  | 0, _, 1, _ => exact CVEq.refl _
  | 0, _, 2, _ => exact CVEq.refl _
  | 1, _, 0, _ => exact CVEq.refl _
  | 1, _, 1, _ => exact CVEq.refl _
  | 1, _, 2, _ => exact CVEq.refl _⟩⟩
def U3 : Fns := U2
theorem U3_ok : FnsOk Tryz.prog U3 := U2_ok
theorem splE_g {t : Tr} {vars : Int} (h : splE t vars = 0) : gT t /\ cntN t ≤ 4096 := by
 obtain ⟨h1, h2, h3, h4⟩ := splE_ok h
 exact ⟨okT_gT h2 h3, h4⟩
end Go.Proofs.YtocnofkagckhkaaGreatDoor.Tr
end
section
namespace Go.Pu
open Go.Sy
variable [Drw]
def sameT : Tr -> Tr -> Bool
 | .nd v r n f => fun b => decide (v = b.v) && decide (r = b.r) && decide (n = b.n) && (List.ofFn fun i : Fin n => sameT (f i) (b.k i)).all id
theorem sameT_iff (a : Tr) : ∀ b : Tr, sameT a b = true ↔ a = b := by
 induction a with
 | nd v r n f ih =>
   intro b
   rw [sameT]
   simp only [Bool.and_eq_true, decide_eq_true_eq, List.all_eq_true, List.mem_ofFn, id_eq]
   constructor
   ·rintro ⟨⟨⟨h1, h2⟩, h3⟩, h4⟩
    refine Tr.ext h1 h2 h3 fun i hi => ?_
    have hi' : i < n := hi
    have h5 := (ih ⟨i, hi'⟩ _).1 (h4 _ ⟨⟨i, hi'⟩, rfl⟩)
    simpa [Tr.k, hi'] using h5
   ·rintro rfl
    refine ⟨⟨⟨rfl, rfl⟩, rfl⟩, ?_⟩
    rintro x ⟨i, rfl⟩
    refine (ih i _).2 ?_
    simp [Tr.k, i.2]
@[simp] theorem sameT_self (a : Tr) : sameT a a = true := (sameT_iff a a).2 rfl
theorem sameT_no {a b : Tr} (h : a ≠ b) : sameT a b = false := by
 cases hb : sameT a b with
 | false => rfl
 | true => exact absurd ((sameT_iff a b).1 hb) h
end Go.Pu
namespace Go.Proofs.YtocnofkagckhkaaGreatDoor.Tr
open Go.Sy Go.Pu
variable [Drw]
theorem same_does (a : Tr) : ∀ b : Tr, DoesF Tryz.prog 53 [trV a, trV b] [] (sB (sameT a b)) [] := by
 induction a using Tr.ind with
 | h a ih =>
   intro b
   have T_ok : FnsOk Tryz.prog ((53, fTT (fun a' b' => sB (sameT a' b')) fun a' _ => ∃ i, i < a.n /\ a' = a.k i) :: U3) := by
    refine .cons U3_ok Tryz.func53 rfl rfl (fTT_ok fun a' b' h => ?_)
    obtain ⟨i, hi, rfl⟩ := h
    exact ih i hi b'
   refine DoesF.body _ Tryz.func53 rfl rfl rfl rfl ?_
   refine KW.lenT 0 a rfl fun han => ?_
   refine KW.open 0 a rfl ?_
   refine KW.open 1 b rfl ?_
   refine KW.goIf lay_ok T_ok 100 rfl (by simp) rfl trivial (fun h => ?_) fun h => ?_
   ·have hne : a ≠ b := by rintro rfl; simp at h
    refine KW.goRet lay_ok T_ok 100 rfl rfl ?_ (by simp) trivial
    rw [sameT_no hne]; rfl
   ·have h3 : a.v = b.v /\ a.r = b.r /\ a.n = b.n := by simp at h; omega
    refine KW.goLpR lay_ok T_ok 100 rfl (I := fun q : Nat => ⟨Tryz.f53.ntmps, [(2, .e (.r 2)), (3, .e (.r 3)), (29, sI a.n), (30, sI q)], [(2, .box 28 [iV a.v, .c a.ksx, iV a.r] none), (3, .box 28 [iV b.v, .c b.ksx, iV b.r] none)]⟩)
     (R := fun q => q ≤ a.n /\ ∀ i, i < q -> a.k i = b.k i) (m := fun q => a.n - q) 0 [(2, 2), (3, 3)] rfl rfl ⟨rfl, rfl, rfl, rfl, trivial⟩ (by simp) ⟨Nat.zero_le _, fun i hi => by omega⟩ (by exact ⟨rfl, rfl, trivial⟩) ?_
    rintro q ⟨h1, h2⟩
    refine KW.goIf lay_ok T_ok 100 rfl (by simp) rfl trivial (fun h => ?_) fun h => ?_
    ·have hq : q < a.n := by simpa using h
     refine KW.goD lay_ok T_ok rfl 100 rfl (by decide +kernel) rfl (by simp) ?_ ?_
     ·simp only [Int.toNat_natCast, Nat.zero_add, Tr.cell_1, unTr_cells, isKs_ks, true_and, and_true]
      exact ⟨by omega, q, hq, rfl⟩
     simp only [Int.toNat_natCast, Nat.zero_add, Tr.cell_1, unTr_cells]
     refine KW.goIf lay_ok T_ok 100 rfl (by simp) rfl trivial (fun h => ?_) fun h => ?_
     ·have hne : a ≠ b := by rintro rfl; simp at h
      refine KW.goOutR lay_ok T_ok 100 rfl (by simp) ?_
      refine KW.goRet lay_ok T_ok 100 rfl rfl ?_ (by simp) trivial
      rw [sameT_no hne]; rfl
     ·have he : a.k q = b.k q := (sameT_iff _ _).1 (by simpa using h)
      refine KW.goToR lay_ok T_ok 100 rfl (q + 1) [(2, 2), (3, 3)] rfl rfl ⟨rfl, rfl, rfl, rfl, trivial⟩ (by simp [inK]; omega) ⟨⟨by omega, fun i hi => ?_⟩, by omega⟩ ⟨rfl, rfl, trivial⟩
      by_cases e : i = q
      ·subst e; exact he
      ·exact h2 i (by omega)
    ·have hq : q = a.n := by simp at h; omega
     subst hq
     refine KW.goOut lay_ok T_ok 100 rfl (by simp) ?_
     refine KW.goRet lay_ok T_ok 100 rfl rfl ?_ (by simp) trivial
     rw [(sameT_iff a b).2 (Tr.ext h3.1 h3.2.1 h3.2.2 h2)]; rfl
theorem left_does (t : Tr) : ∀ most depth : Int, 0 ≤ most -> most ≤ 4096 -> 0 ≤ depth -> depth ≤ 101 -> DoesF Tryz.prog 57 [trV t, iV most, iV depth] [] (sI (leftT t most depth)) [] := by
 induction t using Tr.ind with
 | h t ih =>
   intro most depth m0 m1 d0 d1
   have T_ok : FnsOk Tryz.prog ((57, fTII (fun t' m' d' => sI (leftT t' m' d')) fun t' m' d' => (∃ i, i < t.n /\ t' = t.k i) /\ 0 ≤ m' /\ m' ≤ 4096 /\ 0 ≤ d' /\ d' ≤ 101) :: U3) := by
    refine .cons U3_ok Tryz.func57 rfl rfl (fTII_ok fun t' m' d' h => ?_)
    obtain ⟨⟨i, hi, rfl⟩, h1, h2, h3, h4⟩ := h
    exact ih i hi m' d' h1 h2 h3 h4
   refine DoesF.body _ Tryz.func57 rfl rfl rfl rfl ?_
   refine KW.lenT 0 t rfl fun hn => ?_
   refine KW.open 0 t rfl ?_
   rw [leftT_eq]
   refine KW.goIf lay_ok T_ok 100 rfl (by simp [inK]; omega) rfl trivial (fun h => ?_) fun h => ?_
   ·have h1 : 100 < depth ∨ 10 < t.n := by simp at h; omega
    rw [if_pos h1]
    exact KW.goRet lay_ok T_ok 100 rfl rfl rfl (by simp) trivial
   ·have h1 : ¬ (100 < depth ∨ 10 < t.n) := by simp at h; omega
    rw [if_neg h1]
    have hG : ∀ q, q ≤ t.n -> -1 ≤ fwL (fun i m => leftT (t.k i) m (depth + 1)) (most - 1) q /\ fwL (fun i m => leftT (t.k i) m (depth + 1)) (most - 1) q ≤ most - 1 := fun q hq => fwL_rng (fun i hi m' hm' => leftT_rng (t.k i) m' (depth + 1) hm') (by omega)
    have hS : ∀ q, fwL (fun i m => leftT (t.k i) m (depth + 1)) (most - 1) (q + 1) = if fwL (fun i m => leftT (t.k i) m (depth + 1)) (most - 1) q < 0 then -1 else leftT (t.k q) (fwL (fun i m => leftT (t.k i) m (depth + 1)) (most - 1) q) (depth + 1) := fun q => rfl
    have hN : ∀ q, q < t.n -> fwL (fun i m => leftT (t.k i) m (depth + 1)) (most - 1) q < 0 -> fwL (fun i m => leftT (t.k i) m (depth + 1)) (most - 1) t.n = -1 := fun q hq h => fwL_neg h hq
    have h0 : fwL (fun i m => leftT (t.k i) m (depth + 1)) (most - 1) 0 = most - 1 := rfl
    generalize fwL (fun i m => leftT (t.k i) m (depth + 1)) (most - 1) = V at *
    refine KW.goLpR lay_ok T_ok 100 rfl (I := fun q : Nat => ⟨Tryz.f57.ntmps, [(1, sI (V q)), (2, sI depth), (20, .e (.c t.ksx)), (21, sI t.n), (22, sI q)], []⟩)
     (R := fun q => q ≤ t.n) (m := fun q => t.n - q) 0 [] rfl rfl ⟨by rw [h0]; rfl, rfl, rfl, rfl, rfl, trivial⟩ (by simp) (Nat.zero_le _) trivial ?_
    rintro q hq
    refine KW.goIf lay_ok T_ok 100 rfl (by simp) rfl trivial (fun h => ?_) fun h => ?_
    ·have hq : q < t.n := by simpa using h
     refine KW.goIf lay_ok T_ok 100 rfl (by simp; omega) rfl trivial (fun h => ?_) fun h => ?_
     ·have h2 : V q < 0 := by simpa using h
      refine KW.goOutR lay_ok T_ok 100 rfl (by simp) ?_
      refine KW.goRet lay_ok T_ok 100 rfl rfl ?_ (by simp) trivial
      rw [hN q hq h2]; rfl
     ·have h2 : ¬ V q < 0 := by simpa using h
      have := hG q (by omega)
      refine KW.goToR lay_ok T_ok 100 rfl (q + 1) [] rfl rfl ⟨?_, rfl, rfl, rfl, rfl, trivial⟩ ?_ ⟨by omega, by omega⟩ trivial
      ·rw [hS, if_neg h2]
       simp only [Int.toNat_natCast, Nat.zero_add, Tr.cell_1, unTr_cells]; rfl
      ·simp only [Int.toNat_natCast, Nat.zero_add, Tr.cell_1, unTr_cells, isKs_ks, true_and, and_true, inK]
       exact ⟨⟨by omega, ⟨q, hq, rfl⟩, by omega⟩, by omega⟩
    ·have hq : q = t.n := by simp at h; omega
     subst hq
     refine KW.goOut lay_ok T_ok 100 rfl (by simp) ?_
     exact KW.goRet lay_ok T_ok 100 rfl rfl rfl (by simp) trivial
def U4 : Fns := (53, fTT (fun a b => sB (sameT a b)) fun _ _ => True) ::
 (57, fTII (fun t m d => sI (leftT t m d)) fun t m d => 0 ≤ m /\ m ≤ 4096 /\ 0 ≤ d /\ d ≤ 101) ::
 U3
theorem U4_ok : FnsOk Tryz.prog U4 := .cons (.cons (U3_ok) Tryz.func57 rfl rfl (fTII_ok fun t m d h => left_does t m d h.1 h.2.1 h.2.2.1 h.2.2.2)) Tryz.func53 rfl rfl (fTT_ok fun a b _ => same_does a b)
theorem few_does (t : Tr) (m : Int) (h0 : 0 ≤ m) (h1 : m ≤ 4096) : DoesF Tryz.prog 25 [trV t, iV m] [] (sB (fwB t m)) [] := by
 refine DoesF.body _ Tryz.func25 rfl rfl rfl rfl ?_
 refine KW.goRet lay_ok U4_ok 100 rfl rfl ?_ (by simp; omega) trivial
 simp only [unTr_cells]; rfl
end Go.Proofs.YtocnofkagckhkaaGreatDoor.Tr
end
section
namespace Go.Pu
open Go.Sy
variable [Drw]
theorem iand_1 (x : Int) : iand .i64 x 1 = 0 ∨ iand .i64 x 1 = 1 := by
 have h1 : ∀ i, bit 1 i = decide (0 = i) := fun i => by
  have := one_bit (i := 0) (by decide) i
  simpa [one, ishl] using this
 cases hb : bit x 0 with
 | false =>
   left
   rw [iand_zero]
   intro i hi hx
   rw [h1, decide_eq_false_iff_not]
   rintro rfl
   rw [hb] at hx; cases hx
 | true =>
   right
   refine rng_ext (by simp) (by simp [rng, inK]) fun i hi => ?_
   rw [bit_iand, h1]
   by_cases e : 0 = i
   ·subst e; rw [hb]; rfl
   ·simp [e]
theorem bitB_no {s v : Int} (h : bitB s v = false) : iand .i64 (ishr s v) 1 = 0 := by
 rcases iand_1 (ishr s v) with h1 | h1
 ·exact h1
 ·unfold bitB at h; rw [h1] at h; cases h
theorem bitB_yes {s v : Int} (h : bitB s v = true) : iand .i64 (ishr s v) 1 = 1 := by unfold bitB at h; simpa using h
end Go.Pu
namespace Go.Proofs.YtocnofkagckhkaaGreatDoor.Tr
open Go.Sy Go.Pu
variable [Drw]
abbrev cuV (yes no : Int) : EV := .ag [.lit (.int .i64 yes), .lit (.int .i64 no)]
theorem leafQ (yes no r : Int) : ∀ q, q < 3 -> CVEq (nthD (.lit undef) (leafL ⟨yes, no, r⟩) q) (leafC ⟨yes, no, r⟩ q) := fun q hq =>
 match q, hq with
 | 0, _ => CVEq.refl _
 | 1, _ => CVEq.refl _
 | 2, _ => CVEq.refl _
theorem leaves_does (t : Tr) : gT t -> ∀ (yes no : Int) (xs : List LeafP), (xs.length : Int) + cntN t ≤ 8192 -> DoesF Tryz.prog 105 [.r 0, trV t, cuV yes no] [(0, .own 56 (leavesC xs))] (.e (.r 0)) [(0, .own 56 (leavesC (xs ++ lvs t yes no)))] := by
 induction t using Tr.ind with
 | h t ih =>
   intro hg yes no xs hx
   rw [lvs_eq]
   refine DoesF.body _ Tryz.func105 rfl rfl rfl rfl ?_
   refine KW.open 1 t rfl ?_
   refine KW.goIf lay_ok U4_ok 100 rfl (by simp) rfl trivial (fun h => ?_) fun h => ?_
   ·have h0 : t.n = 0 := by simpa using h
    rw [if_neg (by omega)]
    have pc := cntN_pos t
    refine KW.go lay_ok U4_ok 100 rfl (by simp; omega) ?_
    refine KW.catG 17 ⟨yes, no, t.r⟩ rfl ?_ ?_
    ·exact leafQ yes no t.r
    exact KW.fin [(0, 17)] rfl rfl rfl ⟨rfl, trivial⟩
   ·have h0 : t.n ≠ 0 := by simpa using h
    obtain ⟨h2, v0, v1, _, g0, g1⟩ := gT_kids hg h0
    have one := shl_rng24 v0 v1
    have p0 := cntN_pos (t.k 0)
    have p1 := cntN_pos (t.k 1)
    have l0 := lvs_len (t.k 0) yes (ior .i64 no (ishl 1 t.v))
    have r0 := szT_rng (t.k 0)
    rw [cntN_eq, if_pos h2] at hx
    rw [if_pos h2]
    refine KW.goDS lay_ok U4_ok rfl 100 rfl 14 rfl (by decide +kernel) (by decide +kernel) rfl (by simp) (by simp [inK, bitsI]; omega) ?_
    refine KW.call0 (ih 0 (by omega) g0 yes (ior .i64 no (ishl 1 t.v)) xs (by omega)) (enters Tryz.func105 rfl rfl) [(0, 0)] [(0, 32)] [] (.inl rfl) rfl rfl rfl rfl rfl trivial
     ⟨⟨_, _, rfl, trivial, (show Mt _ _ _ (EV.ren [(0, 0)] (.r 0)) (.r 0) from .same)⟩, ⟨_, _, rfl, trivial, (show Mt _ _ _ (EV.ren [(0, 0)] (trV (t.k 0))) (trV (t.k 0)) from .same)⟩, ⟨_, _, rfl, trivial, (show Mt _ _ _ (EV.ren [(0, 0)] (cuV yes (ior .i64 no (ishl 1 t.v)))) (cuV yes (ior .i64 no (ishl 1 t.v))) from .same)⟩, trivial⟩ rfl ⟨rfl, trivial⟩ rfl ⟨.inl rfl, trivial⟩ rfl rfl (.inl rfl) ?_
    refine KW.goDS lay_ok U4_ok rfl 100 rfl 14 rfl (by decide +kernel) (by decide +kernel) rfl (by simp) (by simp [inK, bitsI]; omega) ?_
    refine KW.call0 (ih 1 (by omega) g1 (ior .i64 yes (ishl 1 t.v)) no (xs ++ lvs (t.k 0) yes (ior .i64 no (ishl 1 t.v))) (by rw [List.length_append]; omega)) (enters Tryz.func105 rfl rfl) [(0, 32)] [(0, 47)] [] (.inl rfl) rfl rfl rfl rfl rfl trivial
     ⟨⟨_, _, rfl, trivial, (show Mt _ _ _ (EV.ren [(0, 32)] (.r 0)) (.r 0) from .same)⟩, ⟨_, _, rfl, trivial, (show Mt _ _ _ (EV.ren [(0, 32)] (trV (t.k 1))) (trV (t.k 1)) from .same)⟩, ⟨_, _, rfl, trivial, (show Mt _ _ _ (EV.ren [(0, 32)] (cuV (ior .i64 yes (ishl 1 t.v)) no)) (cuV (ior .i64 yes (ishl 1 t.v)) no) from .same)⟩, trivial⟩ rfl ⟨rfl, trivial⟩ rfl ⟨.inl rfl, trivial⟩ rfl rfl (.inl rfl) ?_
    rw [<-List.append_assoc]
    exact KW.goRetR lay_ok U4_ok 100 rfl [(0, 47)] rfl rfl rfl (by simp) (by exact ⟨rfl, trivial⟩)
theorem leaves0_does (t : Tr) : gT t -> ∀ (yes no : Int), cntN t ≤ 8192 -> DoesF Tryz.prog 105 [.c (.lit (.slice none 0 0)), trV t, cuV yes no] [] (.e (.r 0)) [(0, .own 56 (leavesC (lvs t yes no)))] := by
 induction t using Tr.ind with
 | h t ih =>
   intro hg yes no hx
   rw [lvs_eq]
   refine DoesF.body _ Tryz.func105 rfl rfl rfl rfl ?_
   refine KW.open 1 t rfl ?_
   refine KW.goIf lay_ok U4_ok 100 rfl (by simp) rfl trivial (fun h => ?_) fun h => ?_
   ·have h0 : t.n = 0 := by simpa using h
    rw [if_neg (by omega)]
    refine KW.go lay_ok U4_ok 100 rfl (by simp) ?_
    refine KW.convR 17 (leavesC [⟨yes, no, t.r⟩]) rfl rfl (fun e q he hq => ?_) ?_
    ·obtain rfl : e = 0 := by omega
     exact (show CVEq (nthD (.lit undef) (leafL ⟨yes, no, t.r⟩) (0 * 3 + q)) (leafC ⟨yes, no, t.r⟩ q) from by rw [Nat.zero_mul, Nat.zero_add]; exact leafQ yes no t.r q hq)
    exact KW.fin [(0, 17)] rfl rfl rfl ⟨rfl, trivial⟩
   ·have h0 : t.n ≠ 0 := by simpa using h
    obtain ⟨h2, v0, v1, _, g0, g1⟩ := gT_kids hg h0
    have one := shl_rng24 v0 v1
    have p0 := cntN_pos (t.k 0)
    have p1 := cntN_pos (t.k 1)
    have l0 := lvs_len (t.k 0) yes (ior .i64 no (ishl 1 t.v))
    have r0 := szT_rng (t.k 0)
    rw [cntN_eq, if_pos h2] at hx
    rw [if_pos h2]
    refine KW.goDS lay_ok U4_ok rfl 100 rfl 14 rfl (by decide +kernel) (by decide +kernel) rfl (by simp) (by simp [inK, bitsI]; omega) ?_
    refine KW.callO0 (ih 0 (by omega) g0 yes (ior .i64 no (ishl 1 t.v)) (by omega)) (enters Tryz.func105 rfl rfl) [] (.inl rfl) rfl rfl rfl rfl rfl trivial
     ⟨⟨_, _, rfl, trivial, .conv (CVEq.refl _)⟩, ⟨_, _, rfl, trivial, (show Mt _ _ _ (EV.ren [] (trV (t.k 0))) (trV (t.k 0)) from .same)⟩, ⟨_, _, rfl, trivial, (show Mt _ _ _ (EV.ren [] (cuV yes (ior .i64 no (ishl 1 t.v)))) (cuV yes (ior .i64 no (ishl 1 t.v))) from .same)⟩, trivial⟩ rfl (.inl rfl) ?_
    refine KW.goDS lay_ok U4_ok rfl 100 rfl 14 rfl (by decide +kernel) (by decide +kernel) rfl (by simp) (by simp [inK, bitsI]; omega) ?_
    refine KW.call0 (leaves_does (t.k 1) g1 (ior .i64 yes (ishl 1 t.v)) no (lvs (t.k 0) yes (ior .i64 no (ishl 1 t.v))) (by omega)) (enters Tryz.func105 rfl rfl) [(0, 32)] [(0, 47)] [] (.inl rfl) rfl rfl rfl rfl rfl trivial
     ⟨⟨_, _, rfl, trivial, (show Mt _ _ _ (EV.ren [(0, 32)] (.r 0)) (.r 0) from .same)⟩, ⟨_, _, rfl, trivial, (show Mt _ _ _ (EV.ren [(0, 32)] (trV (t.k 1))) (trV (t.k 1)) from .same)⟩, ⟨_, _, rfl, trivial, (show Mt _ _ _ (EV.ren [(0, 32)] (cuV (ior .i64 yes (ishl 1 t.v)) no)) (cuV (ior .i64 yes (ishl 1 t.v)) no) from .same)⟩, trivial⟩ rfl ⟨rfl, trivial⟩ rfl ⟨.inl rfl, trivial⟩ rfl rfl (.inl rfl) ?_
    exact KW.goRetR lay_ok U4_ok 100 rfl [(0, 47)] rfl rfl rfl (by simp) (by exact ⟨rfl, trivial⟩)
def splL (t : Tr) (vars : Int) : List LeafP := if splE t vars = 0 then lvs t 0 0 else []
abbrev lvV (l : List LeafP) : EV := .c (leavesC l)
theorem leavesX_does (t : Tr) (vars : Int) : DoesF Tryz.prog 68 [trV t, iV vars] [] (.tup [lvV (splL t vars), eV (splE t vars)]) [] := by
 refine DoesF.body _ Tryz.func68 rfl rfl rfl rfl ?_
 refine KW.goIf lay_ok U4_ok 100 rfl (by simp) rfl trivial (fun h => ?_) fun h => ?_
 ·have h0 : splE t vars ≠ 0 := by simpa using h
  refine KW.go lay_ok U4_ok 100 rfl (by simp) ?_
  refine KW.conv 4 (leavesC []) rfl ⟨rfl, rfl⟩ ?_
  refine KW.fin [] rfl rfl ?_ trivial
  simp only [splL, if_neg h0, unTr_cells]; rfl
 ·have h0 : splE t vars = 0 := by simpa using h
  obtain ⟨hg, hc⟩ := splE_g h0
  refine KW.go lay_ok U4_ok 100 rfl (by simp) ?_
  refine KW.callO0 (leaves0_does t hg 0 0 (by omega)) (enters Tryz.func105 rfl rfl) [] (.inl rfl) rfl rfl rfl rfl rfl trivial
   ⟨⟨_, _, rfl, trivial, .conv (CVEq.refl _)⟩, ⟨_, _, rfl, trivial, (show Mt _ _ _ (EV.ren [] (trV t)) (trV t) from .same)⟩, ⟨_, _, rfl, trivial, (show Mt _ _ _ (EV.ren [] (cuV 0 0)) (cuV 0 0) from .same)⟩, trivial⟩ rfl (.inl rfl) ?_
  refine KW.frz1 15 rfl rfl rfl ?_
  refine KW.goRet lay_ok U4_ok 100 rfl rfl ?_ (by simp) trivial
  simp only [splL, if_pos h0, h0]; rfl
theorem below_does (t : Tr) : gT t -> ∀ (yes no : Int), cntN t ≤ 8192 -> DoesF Tryz.prog 111 [trV t, cuV yes no] [] (.e (.r 0)) [(0, .own 56 (leavesC (lvs t yes no)))] := by
 induction t using Tr.ind with
 | h t ih =>
   intro hg yes no hx
   rw [lvs_eq]
   refine DoesF.body _ Tryz.func111 rfl rfl rfl rfl ?_
   refine KW.open 0 t rfl ?_
   refine KW.goIf lay_ok U4_ok 100 rfl (by simp) rfl trivial (fun h => ?_) fun h => ?_
   ·have h0 : t.n = 0 := by simpa using h
    rw [if_neg (by omega)]
    refine KW.go lay_ok U4_ok 100 rfl (by simp) ?_
    refine KW.convR 15 (leavesC [⟨yes, no, t.r⟩]) rfl rfl (fun e q he hq => ?_) ?_
    ·obtain rfl : e = 0 := by omega
     exact (show CVEq (nthD (.lit undef) (leafL ⟨yes, no, t.r⟩) (0 * 3 + q)) (leafC ⟨yes, no, t.r⟩ q) from by rw [Nat.zero_mul, Nat.zero_add]; exact leafQ yes no t.r q hq)
    exact KW.fin [(0, 15)] rfl rfl rfl ⟨rfl, trivial⟩
   ·have h0 : t.n ≠ 0 := by simpa using h
    obtain ⟨h2, v0, v1, _, g0, g1⟩ := gT_kids hg h0
    have one := shl_rng24 v0 v1
    have p0 := cntN_pos (t.k 0)
    have p1 := cntN_pos (t.k 1)
    have l0 := lvs_len (t.k 0) yes (ior .i64 no (ishl 1 t.v))
    have r0 := szT_rng (t.k 0)
    have l1 := lvs_len (t.k 1) (ior .i64 yes (ishl 1 t.v)) no
    have r1 := szT_rng (t.k 1)
    rw [cntN_eq, if_pos h2] at hx
    rw [if_pos h2]
    refine KW.goDS lay_ok U4_ok rfl 100 rfl 13 rfl (by decide +kernel) (by decide +kernel) rfl (by simp) (by simp [inK, bitsI]; omega) ?_
    refine KW.callO0 (ih 0 (by omega) g0 yes (ior .i64 no (ishl 1 t.v)) (by omega)) (enters Tryz.func111 rfl rfl) [] (.inl rfl) rfl rfl rfl rfl rfl trivial
     ⟨⟨_, _, rfl, trivial, (show Mt _ _ _ (EV.ren [] (trV (t.k 0))) (trV (t.k 0)) from .same)⟩, ⟨_, _, rfl, trivial, (show Mt _ _ _ (EV.ren [] (cuV yes (ior .i64 no (ishl 1 t.v)))) (cuV yes (ior .i64 no (ishl 1 t.v))) from .same)⟩, trivial⟩ rfl (.inl rfl) ?_
    refine KW.goDS lay_ok U4_ok rfl 100 rfl 13 rfl (by decide +kernel) (by decide +kernel) rfl (by simp) (by simp [inK, bitsI]; omega) ?_
    refine KW.callO0 (ih 1 (by omega) g1 (ior .i64 yes (ishl 1 t.v)) no (by omega)) (enters Tryz.func111 rfl rfl) [] (.inl rfl) rfl rfl rfl rfl rfl trivial
     ⟨⟨_, _, rfl, trivial, (show Mt _ _ _ (EV.ren [] (trV (t.k 1))) (trV (t.k 1)) from .same)⟩, ⟨_, _, rfl, trivial, (show Mt _ _ _ (EV.ren [] (cuV (ior .i64 yes (ishl 1 t.v)) no)) (cuV (ior .i64 yes (ishl 1 t.v)) no) from .same)⟩, trivial⟩ rfl (.inl rfl) ?_
    generalize lvs (t.k 0) yes (ior .i64 no (ishl 1 t.v)) = a at *
    generalize lvs (t.k 1) (ior .i64 yes (ishl 1 t.v)) no = b at *
    rw [show leavesC (a ++ b) = catV (leavesC a) (leavesC b) from (catV_rows a b).symm]
    exact KW.goRetR lay_ok U4_ok 100 rfl [(0, 46)] rfl rfl rfl (by simp; omega) (by exact ⟨rfl, trivial⟩)
theorem rleavesX_does (t : Tr) (vars : Int) : DoesF Tryz.prog 76 [trV t, iV vars] [] (.tup [lvV (splL t vars), iV (splE t vars)]) [] := by
 refine DoesF.body _ Tryz.func76 rfl rfl rfl rfl ?_
 refine KW.goIf lay_ok U4_ok 100 rfl (by simp) rfl trivial (fun h => ?_) fun h => ?_
 ·have h0 : splE t vars ≠ 0 := by simpa using h
  refine KW.go lay_ok U4_ok 100 rfl (by simp) ?_
  refine KW.conv 4 (leavesC []) rfl ⟨rfl, rfl⟩ ?_
  refine KW.fin [] rfl rfl ?_ trivial
  simp only [splL, if_neg h0, unTr_cells]; rfl
 ·have h0 : splE t vars = 0 := by simpa using h
  obtain ⟨hg, hc⟩ := splE_g h0
  refine KW.go lay_ok U4_ok 100 rfl (by simp) ?_
  refine KW.callO0 (below_does t hg 0 0 (by omega)) (enters Tryz.func111 rfl rfl) [] (.inl rfl) rfl rfl rfl rfl rfl trivial
   ⟨⟨_, _, rfl, trivial, (show Mt _ _ _ (EV.ren [] (trV t)) (trV t) from .same)⟩, ⟨_, _, rfl, trivial, (show Mt _ _ _ (EV.ren [] (cuV 0 0)) (cuV 0 0) from .same)⟩, trivial⟩ rfl (.inl rfl) ?_
  refine KW.frz1 15 rfl rfl rfl ?_
  refine KW.goRet lay_ok U4_ok 100 rfl rfl ?_ (by simp) trivial
  simp only [splL, if_pos h0, h0]; rfl
def atE (t : Tr) (vars s : Int) : Int := if splE t vars = 0 then if s < 0 ∨ ishl 1 vars ≤ s then 3 else 0 else splE t vars
def atV (t : Tr) (vars s : Int) : LeafP := if atE t vars s = 0 then atT s t 0 0 else leaf0
abbrev leV (l : LeafP) : EV := .ag (leafL l)
theorem shl_v {vars : Int} (h0 : 0 ≤ vars) (h1 : vars ≤ 24) : 1 ≤ ishl 1 vars /\ ishl 1 vars ≤ 16777216 := by
 obtain ⟨n, rfl⟩ := Int.eq_ofNat_of_zero_le h0
 exact (by decide +kernel : ∀ n : Fin 25, 1 ≤ ishl 1 ((n.val : Nat) : Int) /\ ishl 1 ((n.val : Nat) : Int) ≤ 16777216) ⟨n, by omega⟩
theorem at_does (t : Tr) (vars s : Int) : DoesF Tryz.prog 21 [trV t, iV vars, iV s] [] (.tup [leV (atV t vars s), eV (atE t vars s)]) [] := by
 refine DoesF.bodyC lay_ok _ Tryz.func21 rfl rfl rfl rfl ?_
 refine KW.goIf lay_ok U4_ok 100 rfl (by simp) rfl trivial (fun h => ?_) fun h => ?_
 ·have h0 : splE t vars ≠ 0 := by simpa using h
  have e : atE t vars s = splE t vars := by rw [atE, if_neg h0]
  refine KW.goRetC lay_ok U4_ok 100 rfl rfl ?_ (by simp) trivial
  simp only [atV, e, if_neg h0, unTr_cells]; rfl
 ·have h0 : splE t vars = 0 := by simpa using h
  obtain ⟨q1, q2, q3, q4⟩ := splE_ok h0
  have hs := shl_v q1 q2
  have hg := okT_gT q2 q3
  refine KW.goIf lay_ok U4_ok 100 rfl (by simp [inK, bitsI]; omega) rfl trivial (fun h => ?_) fun h => ?_
  ·have h1 : s < 0 ∨ ishl 1 vars ≤ s := by simp at h; omega
   have e : atE t vars s = 3 := by rw [atE, if_pos h0, if_pos h1]
   refine KW.goRetC lay_ok U4_ok 100 rfl rfl ?_ (by simp) trivial
   simp only [atV, e]; rfl
  ·have h1 : ¬ (s < 0 ∨ ishl 1 vars ≤ s) := by simp at h; omega
   have e : atE t vars s = 0 := by rw [atE, if_pos h0, if_neg h1]
   rw [atV, e, if_pos rfl]
   refine KW.goLpR lay_ok U4_ok 100 rfl (I := fun q : Tr × Int × Int => ⟨Tryz.f21.ntmps, [(2, sI s), (3, .e (.r 3)), (6, .e (.r 6)), (9, .e (.r 9))], [(3, .box 28 [iV q.1.v, .c q.1.ks, iV q.1.r] none), (6, .box 56 [iV 0, iV 0, iV 0] none), (9, .box 54 [iV q.2.1, iV q.2.2] none)]⟩)
    (R := fun q => gT q.1 /\ atT s q.1 q.2.1 q.2.2 = atT s t 0 0) (m := fun q => (cntN q.1).toNat) (t, 0, 0) [(3, 3), (6, 6), (9, 9)] rfl rfl ⟨rfl, rfl, rfl, rfl, trivial⟩ (by simp) ⟨hg, rfl⟩ (by exact ⟨rfl, rfl, rfl, trivial⟩) ?_
   rintro ⟨u, yes, no⟩ ⟨g1, g2⟩
   simp only at g1 g2
   refine KW.convB 3 1 u.ksx rfl rfl u.ks_x ?_
   rw [atT_eq] at g2
   refine KW.goIf lay_ok U4_ok 100 rfl (by simp) rfl trivial (fun h => ?_) fun h => ?_
   ·have hn : u.n ≠ 0 := by simp at h; omega
    obtain ⟨n2, v0, v1, _, k0, k1⟩ := gT_kids g1 hn
    have one := shl_rng24 v0 v1
    have pc := cntN_eq u
    have p0 := cntN_pos (u.k 0)
    have p1 := cntN_pos (u.k 1)
    rw [if_pos n2] at pc g2
    refine KW.goIf lay_ok U4_ok 100 rfl (by simp [bitsI]; omega) rfl trivial (fun h => ?_) fun h => ?_
    ·have hb : bitB s u.v = true := h
     have e1 := bitB_yes hb
     rw [if_pos hb] at g2
     refine KW.goDS lay_ok U4_ok rfl 100 rfl 7 rfl (by decide +kernel) (by decide +kernel) rfl (by simp) (by simp [inK, bitsI]; omega) ?_
     refine KW.goToR lay_ok U4_ok 100 rfl (u.k 1, ior .i64 yes (ishl 1 u.v), no) [(3, 3), (6, 6), (9, 9)] rfl rfl ⟨rfl, rfl, rfl, rfl, trivial⟩ (by simp only [e1]; simp; omega) ⟨⟨k1, g2⟩, by simp only; omega⟩ ⟨?_, rfl, rfl, trivial⟩
     simp only [e1]; rfl
    ·have hb : bitB s u.v = false := h
     have e1 := bitB_no hb
     rw [if_neg (by rw [hb]; decide)] at g2
     refine KW.goDS lay_ok U4_ok rfl 100 rfl 7 rfl (by decide +kernel) (by decide +kernel) rfl (by simp) (by simp [inK, bitsI]; omega) ?_
     refine KW.goToR lay_ok U4_ok 100 rfl (u.k 0, yes, ior .i64 no (ishl 1 u.v)) [(3, 3), (6, 6), (9, 9)] rfl rfl ⟨rfl, rfl, rfl, rfl, trivial⟩ (by simp only [e1]; simp; omega) ⟨⟨k0, g2⟩, by simp only; omega⟩ ⟨?_, rfl, rfl, trivial⟩
     simp only [e1]; rfl
   ·have hn : u.n = 0 := by simp at h; omega
    rw [if_neg (by omega)] at g2
    rw [<-g2]
    refine KW.goOut lay_ok U4_ok 100 rfl (by simp) ?_
    exact KW.goRetC lay_ok U4_ok 100 rfl rfl rfl (by simp) trivial
def unLs : CV -> List LeafP
 | .sl n _ f => (List.range n).map fun e => ⟨cvInt (f e 0), cvInt (f e 1), cvInt (f e 2)⟩
 | _ => []
def isLs (x : CV) : Prop := CVEq x (leavesC (unLs x))
@[simp] theorem unLs_leavesC (l : List LeafP) : unLs (leavesC l) = l := by
  unfold unLs leavesC rows
  refine List.ext_getElem (by simp) fun j h1 h2 => ?_
  simp only [List.getElem_map, List.getElem_range]
  have e : l.getD j leaf0 = l[j] := by simp [List.getD_eq_getElem?_getD, h2]
  rw [e]; rfl
@[simp] theorem isLs_leavesC (l : List LeafP) : isLs (leavesC l) := by unfold isLs; rw [unLs_leavesC]; exact CVEq.refl _
def U5 : Fns := (68, fTI (fun t v => .tup [lvV (splL t v), eV (splE t v)]) fun _ _ => True) ::
 (76, fTI (fun t v => .tup [lvV (splL t v), iV (splE t v)]) fun _ _ => True) ::
 (21, fTII (fun t v s => .tup [leV (atV t v s), eV (atE t v s)]) fun _ _ _ => True) ::
 (25, fTI (fun t m => sB (fwB t m)) fun _ m => 0 ≤ m /\ m ≤ 4096) ::
 U4
theorem U5_ok : FnsOk Tryz.prog U5 := .cons (.cons (.cons (.cons (U4_ok) Tryz.func25 rfl rfl (fTI_ok fun t m h => few_does t m h.1 h.2)) Tryz.func21 rfl rfl (fTII_ok fun t v s _ => at_does t v s)) Tryz.func76 rfl rfl (fTI_ok fun t v _ => rleavesX_does t v)) Tryz.func68 rfl rfl (fTI_ok fun t v _ => leavesX_does t v)
def U6 : Fns := U5
theorem U6_ok : FnsOk Tryz.prog U6 := U5_ok
end Go.Proofs.YtocnofkagckhkaaGreatDoor.Tr
end
section
namespace Go.Pu
open Go.Sy
variable [Drw]
theorem decD_ne (u : Nat) : Lib.decDigits u ≠ [] := by
 rw [Lib.decDigits]; split <;> simp
theorem nDig_le : ∀ (m u : Nat), u < 10 ^ (m + 1) -> Lib.nDigits u ≤ m + 1
 | 0, u, h => by rw [Lib.nDigits_small (by simpa using h)]; exact Nat.le_refl _
 | m + 1, u, h => by
   by_cases h1 : u < 10
   ·rw [Lib.nDigits_small h1]; omega
   ·rw [Lib.nDigits_big h1]
    have := nDig_le m (u / 10) (by rw [Nat.pow_succ] at h; omega)
    omega
def showT : Tr -> List UInt8 := Tr.bin (fun t => Lib.itoa t.r) fun t x y => 91 :: (Lib.itoa t.v ++ 32 :: (x ++ 32 :: (y ++ [93])))
theorem showT_eq (t : Tr) : showT t = if t.n = 2 then 91 :: (Lib.itoa t.v ++ 32 :: (showT (t.k 0) ++ 32 :: (showT (t.k 1) ++ [93]))) else Lib.itoa t.r := Tr.bin_eq _ _ t
theorem itoa_len (n : Int) : 1 ≤ (Lib.itoa n).length := by
 have hne := decD_ne n.natAbs
 by_cases hneg : n < 0
 ·have hi : Lib.itoa n = 45 :: Lib.decDigits n.natAbs := by rw [Lib.itoa, if_pos hneg]
  rw [hi]; simp
 ·have hi : Lib.itoa n = Lib.decDigits n.natAbs := by rw [Lib.itoa, if_neg hneg]; congr 1; omega
  rw [hi]; exact List.length_pos_iff.2 hne
theorem showT_len (t : Tr) : 1 ≤ (showT t).length := by
 rw [showT_eq]; split
 ·simp
 ·exact itoa_len _
end Go.Pu
end
section
namespace Go.Pu
open Go.Sy
variable [Drw]
end Go.Pu
namespace Go.Sy
variable [Drw]
end Go.Sy
namespace Go.Pu
open Go.Sy
variable [Drw]
end Go.Pu
namespace Go.Proofs.YtocnofkagckhkaaGreatDoor.Tr
open Go.Sy Go.Pu
variable [Drw]
def U7 : Fns := U6
theorem U7_ok : FnsOk Tryz.prog U7 := U6_ok
end Go.Proofs.YtocnofkagckhkaaGreatDoor.Tr
end
section
namespace Go.Sy
variable [Drw]
theorem FnsOk.append {P : Program} {a b : Fns} (ha : FnsOk P a) (hb : FnsOk P b) : FnsOk P (a ++ b) := fun f F h => by
 cases hl : lk a f with
 | some G =>
   rw [lkA_some hl] at h
   cases h
   exact ha f _ hl
 | none =>
   have : lk (a ++ b) f = lk b f := by
    clear ha h
    induction a with
    | nil => rfl
    | cons p a ih =>
      rw [lk_cons] at hl
      split at hl
      ·cases hl
      ·rename_i hne
       rw [List.cons_append, lk_cons, if_neg hne, ih hl]
   rw [this] at h
   exact hb f F h
end Go.Sy
namespace Go.Proofs.YtocnofkagckhkaaGreatDoor
open Go.Sy Go.Pu Go.Proofs.YtocnofkagckhkaaGreatDoor.Tr
variable [Drw]
def idxV (p : Int -> Bool) (xs : List Int) : Int := match firstB (fun i => p (xs.getD i 0)) xs.length with
 | some i => (i : Int)
 | none => -1
theorem idxV_some {p : Int -> Bool} {xs : List Int} {i : Nat} (h : firstB (fun i => p (xs.getD i 0)) xs.length = some i) : idxV p xs = i := by rw [idxV, h]
theorem idxV_none {p : Int -> Bool} {xs : List Int} (h : firstB (fun i => p (xs.getD i 0)) xs.length = none) : idxV p xs = -1 := by rw [idxV, h]
theorem indexP_does {g m : Nat} {ks : Nat -> Nat} {caps : Nat -> Nat -> CV} {p : Int -> Bool} (xs : List Int) (hc : Clo Tryz.prog g m ks caps p xs) :
  DoesF Tryz.prog 71 [.c (ints xs), .c (.clo g m ks caps)] [] (sI (idxV p xs)) [] := by
 refine DoesF.body _ Tryz.func71 rfl rfl rfl rfl ?_
 refine KW.len 0 rfl rfl fun hla => ?_
 refine KW.goLp lay_ok T9_ok 100 rfl (I := fun q : Nat => ⟨Tryz.f71.ntmps, [(0, .e (.c (ints xs))), (1, .e (.c (.clo g m ks caps))), (7, sI xs.length), (8, sI q)], []⟩) (R := fun q => q ≤ xs.length /\ ∀ i, i < q -> p (xs.getD i 0) = false) (m := fun q => xs.length - q) 0 rfl ⟨rfl, rfl, rfl, rfl, trivial⟩ (by simp) ⟨by simp, fun i hi => absurd hi (by omega)⟩ trivial ?_
 rintro q ⟨h1, h2⟩
 refine KW.goIf lay_ok T9_ok 100 rfl (by simp) rfl trivial (fun h => ?_) fun h => ?_
 ·have hq : q < xs.length := by simpa using h
  have hg : xs.getD (Int.toNat (q : Int)) 0 = xs[q] := by simp [List.getD_eq_getElem?_getD, hq]
  have hg' : xs.getD q 0 = xs[q] := by simp [List.getD_eq_getElem?_getD, hq]
  refine KW.go lay_ok T9_ok 100 rfl (by simp; omega) ?_
  refine KW.callC [iV xs[q]] (hc.2 xs[q] (List.getElem_mem hq)) hc.1 [] (.inl rfl) rfl rfl rfl rfl rfl trivial ⟨⟨_, _, rfl, trivial, Mt.conv (show CVEq (.lit (.int .i64 (xs.getD (Int.toNat (q : Int)) 0))) _ by rw [hg]; exact CVEq.refl _)⟩, trivial⟩ rfl (.inl rfl) ?_
  refine KW.goIf lay_ok T9_ok 100 rfl (by simp) rfl trivial (fun h => ?_) fun h => ?_
  ·refine KW.goOutR lay_ok T9_ok 100 rfl (by simp) ?_
   refine KW.goRet lay_ok T9_ok 100 rfl rfl ?_ (by simp) trivial
   rw [idxV_some (firstB_some hq (by rw [hg']; exact h) h2)]; rfl
  ·refine KW.goTo lay_ok T9_ok 100 rfl (q + 1) rfl ⟨rfl, rfl, rfl, rfl, trivial⟩ (by simp [inK]; omega) ⟨⟨by omega, fun i hi => ?_⟩, by omega⟩ trivial
   by_cases hiq : i = q
   ·subst hiq; rw [hg']; exact h
   ·exact h2 i (by omega)
 ·have hq : q = xs.length := by simp at h; omega
  refine KW.goOut lay_ok T9_ok 100 rfl (by simp) ?_
  refine KW.goRet lay_ok T9_ok 100 rfl rfl ?_ (by simp) trivial
  rw [idxV_none (firstB_none.2 fun i hi => h2 i (by omega))]; rfl
theorem idx_yes {l : List Int} {y : Int} {i : Nat} (h : inYes l y = some i) : idxV (fun x => iandNot .i64 x y == 0) l = i := idxV_some (p := fun x => iandNot .i64 x y == 0) h
theorem idx_yes0 {l : List Int} {y : Int} (h : inYes l y = none) : idxV (fun x => iandNot .i64 x y == 0) l = -1 := idxV_none (p := fun x => iandNot .i64 x y == 0) h
theorem idx_off {l : List Int} {y : Int} {i : Nat} (h : offNo l y = some i) : idxV (fun x => iand .i64 x y == 0) l = i := idxV_some (p := fun x => iand .i64 x y == 0) h
theorem idx_off0 {l : List Int} {y : Int} (h : offNo l y = none) : idxV (fun x => iand .i64 x y == 0) l = -1 := idxV_none (p := fun x => iand .i64 x y == 0) h
def cuC (yes no : Int) : Nat -> CV := fun q => if q = 0 then .lit (.int .i64 yes) else .lit (.int .i64 no)
theorem cgrow1_does (x yes no : Int) : DoesF Tryz.prog 84 [iV x, .pe 1 2 (fun _ q => cuC yes no q) 0 0] [] (sB (iandNot .i64 x yes == 0)) [] := by
 refine DoesF.body _ Tryz.func84 rfl rfl rfl rfl ?_
 exact KW.goRet lay_ok T9_ok 100 rfl rfl rfl (by simp) trivial
theorem cgrow2_does (x yes no : Int) : DoesF Tryz.prog 85 [iV x, .pe 1 2 (fun _ q => cuC yes no q) 0 0] [] (sB (iandNot .i64 x no == 0)) [] := by
 refine DoesF.body _ Tryz.func85 rfl rfl rfl rfl ?_
 exact KW.goRet lay_ok T9_ok 100 rfl rfl rfl (by simp) trivial
theorem cgrow3_does (x yes no : Int) : DoesF Tryz.prog 86 [iV x, .pe 1 2 (fun _ q => cuC yes no q) 0 0] [] (sB (iand .i64 x no == 0)) [] := by
 refine DoesF.body _ Tryz.func86 rfl rfl rfl rfl ?_
 exact KW.goRet lay_ok T9_ok 100 rfl rfl rfl (by simp) trivial
def grR (cuts paths : List Int) (c : Int) (b : Nat) : List (Nat × Res) := [(0, .box 87 [lV cuts, lV paths, iV 0, .c (.lit (.slice none 0 0)), iV 0, iV c] (some b))]
def growOk (cuts paths : List Int) (f : Nat) : Prop := ∀ (yes no c : Int) (b : Nat), freeC yes no < f -> 0 ≤ c -> c ≤ 4096 -> DoesF Tryz.prog 42 [.r 0, cuV yes no] (grR cuts paths c b) (.tup [trV (growP cuts paths f yes no c).1, eV (growP cuts paths f yes no c).2.2]) (grR cuts paths (growP cuts paths f yes no c).2.1 b)
theorem growP_cnt (cuts paths : List Int) : ∀ (f : Nat) (yes no c : Int), c ≤ 4096 -> c ≤ (growP cuts paths f yes no c).2.1 /\ ((growP cuts paths f yes no c).2.2 = 0 -> (growP cuts paths f yes no c).2.1 ≤ 4096)
 | 0, _, _, c, hc => ⟨Int.le_refl _, fun _ => hc⟩
 | f + 1, yes, no, c, hc => by
   rw [growP]
   by_cases hbig : 4096 < c + 1
   ·rw [if_pos hbig]; exact ⟨by simp only; omega, fun h => by cases h⟩
   rw [if_neg hbig]
   cases hy : inYes cuts yes with
   | some i => exact ⟨by simp only; omega, fun _ => by simp only; omega⟩
   | none =>
   cases hp : inYes paths no with
   | some i => exact ⟨by simp only; omega, fun _ => by simp only; omega⟩
   | none =>
   cases ho : offNo cuts no with
   | none => exact ⟨by simp only; omega, fun h => by cases h⟩
   | some i =>
     dsimp only
     have ia := growP_cnt cuts paths f yes (ior .i64 no (Go.Pu.one (nextV cuts yes i))) (c + 1) (by omega)
     generalize growP cuts paths f yes (ior .i64 no (Go.Pu.one (nextV cuts yes i))) (c + 1) = A at *
     by_cases a0 : A.2.2 = 0
     ·rw [if_pos a0]
      have ib := growP_cnt cuts paths f (ior .i64 yes (Go.Pu.one (nextV cuts yes i))) no A.2.1 (ia.2 a0)
      generalize growP cuts paths f (ior .i64 yes (Go.Pu.one (nextV cuts yes i))) no A.2.1 = B at *
      exact ⟨by simp only; omega, fun h => ib.2 h⟩
     ·rw [if_neg a0]
      exact ⟨by simp only; omega, fun h => absurd h a0⟩
set_option maxHeartbeats 3200000 in
theorem cgrow_does (cuts paths : List Int) {n : Nat} (hn24 : n ≤ 24) (hcn : ∀ x ∈ cuts, inN n x) (hcl : cuts.length ≤ 1024) (hpl : paths.length ≤ 1024) (f : Nat) (hf : growOk cuts paths f) : growOk cuts paths (f + 1) := by
 intro yes no c b hfree hc0 hc1
 have hcv : ∀ x ∈ cuts, validS x = true := fun x hx => (hcn x hx).1
 refine DoesF.bodyC lay_ok _ Tryz.func42 rfl rfl rfl rfl ?_
 refine KW.goIf lay_ok U4_ok 100 rfl (by simp [inK]; omega) rfl trivial (fun h => ?_) fun h => ?_
 ·have h1 : 4096 < c + 1 := by simpa using h
  rw [growP, if_pos h1]
  refine KW.go lay_ok U4_ok 100 rfl (by simp) ?_
  refine KW.convB 4 1 Tr.no.ks rfl rfl ⟨rfl, rfl⟩ ?_
  exact KW.finC [(0, 0)] rfl rfl rfl (by exact ⟨rfl, trivial⟩)
 have h1 : ¬ 4096 < c + 1 := by simpa using h
 rw [growP, if_neg h1]
 refine KW.go lay_ok U4_ok 100 rfl (by simp) ?_
 refine KW.callV0 (indexP_does (m := 1) (ks := fun _ => 2) (caps := fun _ => cuC yes no) (p := fun x => iandNot .i64 x yes == 0) cuts ⟨enters Tryz.func84 rfl rfl, fun x _ => cgrow1_does x yes no⟩) (enters Tryz.func71 rfl rfl) [3] (.inl rfl) rfl rfl rfl rfl rfl trivial
  ⟨⟨_, _, rfl, trivial, .conv (CVEq.refl _)⟩, ⟨_, _, rfl, trivial, .lfn rfl ?_⟩, trivial⟩ rfl (.inr trivial) ?_
 ·intro j hj
  obtain rfl : j = 0 := by omega
  refine ⟨3, _, _, _, rfl, rfl, rfl, rfl, fun q hq => ?_⟩
  match q, hq with
  | 0, _ => rfl
  | 1, _ => rfl
 refine KW.goIf lay_ok U4_ok 100 rfl (by simp) rfl trivial (fun h => ?_) fun h => ?_
 ·cases hy : inYes cuts yes with
  | none =>
    exfalso
    rw [idx_yes0 hy] at h
    exact absurd h (by decide)
  | some i =>
    rw [idx_yes hy]
    refine KW.go lay_ok U4_ok 100 rfl (by simp) ?_
    refine KW.convB 4 1 (Tr.lf i).ks rfl rfl ⟨rfl, rfl⟩ ?_
    exact KW.finC [(0, 0)] rfl rfl rfl (by exact ⟨rfl, trivial⟩)
 have hy : inYes cuts yes = none := by
  cases hy : inYes cuts yes with
  | none => rfl
  | some i => rw [idx_yes hy] at h; simp at h
 rw [hy]
 refine KW.go lay_ok U4_ok 100 rfl (by simp) ?_
 refine KW.callV0 (indexP_does (m := 1) (ks := fun _ => 2) (caps := fun _ => cuC yes no) (p := fun x => iandNot .i64 x no == 0) paths ⟨enters Tryz.func85 rfl rfl, fun x _ => cgrow2_does x yes no⟩) (enters Tryz.func71 rfl rfl) [3] (.inl rfl) rfl rfl rfl rfl rfl trivial
  ⟨⟨_, _, rfl, trivial, .conv (CVEq.refl _)⟩, ⟨_, _, rfl, trivial, .lfn rfl ?_⟩, trivial⟩ rfl (.inr trivial) ?_
 ·intro j hj
  obtain rfl : j = 0 := by omega
  refine ⟨3, _, _, _, rfl, rfl, rfl, rfl, fun q hq => ?_⟩
  match q, hq with
  | 0, _ => rfl
  | 1, _ => rfl
 refine KW.goIf lay_ok U4_ok 100 rfl (by simp) rfl trivial (fun h => ?_) fun h => ?_
 ·cases hp : inYes paths no with
  | none =>
    exfalso
    rw [idx_yes0 hp] at h
    exact absurd h (by decide)
  | some i =>
    obtain ⟨q1, q2⟩ := inYes_some hp
    rw [idx_yes hp]
    refine KW.go lay_ok U4_ok 100 rfl (by simp [inK]; omega) ?_
    refine KW.convB 4 1 (Tr.lf (-1 - (i : Int))).ks rfl rfl ⟨rfl, rfl⟩ ?_
    exact KW.finC [(0, 0)] rfl rfl rfl (by exact ⟨rfl, trivial⟩)
 have hp : inYes paths no = none := by
  cases hp : inYes paths no with
  | none => rfl
  | some i => rw [idx_yes hp] at h; simp at h
 rw [hp]
 refine KW.go lay_ok U4_ok 100 rfl (by simp) ?_
 refine KW.callV0 (indexP_does (m := 1) (ks := fun _ => 2) (caps := fun _ => cuC yes no) (p := fun x => iand .i64 x no == 0) cuts ⟨enters Tryz.func86 rfl rfl, fun x _ => cgrow3_does x yes no⟩) (enters Tryz.func71 rfl rfl) [3] (.inl rfl) rfl rfl rfl rfl rfl trivial
  ⟨⟨_, _, rfl, trivial, .conv (CVEq.refl _)⟩, ⟨_, _, rfl, trivial, .lfn rfl ?_⟩, trivial⟩ rfl (.inr trivial) ?_
 ·intro j hj
  obtain rfl : j = 0 := by omega
  refine ⟨3, _, _, _, rfl, rfl, rfl, rfl, fun q hq => ?_⟩
  match q, hq with
  | 0, _ => rfl
  | 1, _ => rfl
 refine KW.goIf lay_ok U4_ok 100 rfl (by simp) rfl trivial (fun h => ?_) fun h => ?_
 ·cases ho : offNo cuts no with
  | some i => exfalso; rw [idx_off ho] at h; simp at h; omega
  | none =>
    refine KW.go lay_ok U4_ok 100 rfl (by simp) ?_
    refine KW.convB 4 1 Tr.no.ks rfl rfl ⟨rfl, rfl⟩ ?_
    exact KW.finC [(0, 0)] rfl rfl rfl (by exact ⟨rfl, trivial⟩)
 cases ho : offNo cuts no with
 | none => exfalso; rw [idx_off0 ho] at h; exact absurd h (by decide)
 | some i =>
   rw [idx_off ho]
   dsimp only
   obtain ⟨g1, g2⟩ := offNo_some ho
   have hm := getD_mem g1
   obtain ⟨v1, v2, v3⟩ := next_spec hn24 hcn hy ho
   have fa := free_no (yes := yes) (no := no) (by omega) v2 v3
   have fb := free_yes (yes := yes) (no := no) (by omega) v2 v3
   have hgi : cuts.getD (Int.toNat (i : Int)) 0 = cuts.getD i 0 := by rw [Int.toNat_natCast]
   have hz : iandNot .i64 (cuts.getD i 0) yes ≠ 0 := inYes_none hy _ hm
   obtain ⟨z1, z2, z3⟩ := lowB_spec (valid_iandNot (y := yes) (hcv _ hm)) hz
   rw [show lowB (iandNot .i64 (cuts.getD i 0) yes) = nextV cuts yes i from rfl] at z1 z2 z3
   have hsh := shl_rng24 (v := (nextV cuts yes i : Int)) (by omega) (by omega)
   refine KW.goLpR lay_ok U4_ok 100 rfl (I := fun q : Nat => ⟨Tryz.f42.ntmps, [(0, .e (.r 0)), (3, .e (.r 3)), (4, .e (.r 4)), (8, sI i), (9, sI q)], [(0, .box 87 [lV cuts, lV paths, iV 0, .c (.lit (.slice none 0 0)), iV 0, iV (c + 1)] (some b)), (3, .box 54 [iV yes, iV no] none), (4, .box 28 [iV 0, .c (.lit (.slice none 0 0)), iV 0] none)]⟩)
    (R := fun q => q ≤ nextV cuts yes i) (m := fun q => 24 - q) 0 [(0, 0), (3, 3), (4, 4)] rfl rfl ⟨rfl, rfl, rfl, rfl, rfl, trivial⟩ (by simp) (Nat.zero_le _) ⟨rfl, rfl, rfl, trivial⟩ ?_
   intro q hq
   refine KW.goD lay_ok U4_ok rfl 100 rfl (by decide +kernel) rfl (by simp) ?_ ?_
   ·simp only [true_and, and_true, inK, bitsI]
    omega
   have htest : (iand .i64 (ishr (iandNot .i64 (cuts.getD (Int.toNat (i : Int)) 0) yes) (q : Int)) 1 == 0) = !bit (iandNot .i64 (cuts.getD i 0) yes) q := by
    rw [hgi]
    have := bitB_bit (iandNot .i64 (cuts.getD i 0) yes) (v := (q : Int)) (by omega) (by omega)
    rw [Int.toNat_natCast] at this
    rw [<-this]
    unfold bitB
    rcases iand_1 (ishr (iandNot .i64 (cuts.getD i 0) yes) (q : Int)) with h | h <;> rw [h] <;> rfl
   refine KW.goIf lay_ok U4_ok 100 rfl (by simp) rfl trivial (fun h => ?_) fun h => ?_
   ·have h2 : bit (iandNot .i64 (cuts.getD i 0) yes) q = false := by
     have := htest.symm.trans h
     rwa [Bool.not_eq_true'] at this
    have hlt : q < nextV cuts yes i := Nat.lt_of_le_of_ne hq fun e => by rw [e, z2] at h2; cases h2
    refine KW.goToR lay_ok U4_ok 100 rfl (q + 1) [(0, 0), (3, 3), (4, 4)] rfl rfl ⟨rfl, rfl, rfl, rfl, rfl, trivial⟩ (by simp [inK]; omega) ⟨hlt, by omega⟩ ⟨rfl, rfl, rfl, trivial⟩
   have h2 : bit (iandNot .i64 (cuts.getD i 0) yes) q = true := by
    have := htest.symm.trans h
    rwa [Bool.not_eq_false'] at this
   have hqe : q = nextV cuts yes i := Nat.le_antisymm hq (Nat.le_of_not_lt fun hlt => by rw [z3 q hlt] at h2; cases h2)
   subst hqe
   refine KW.goOut lay_ok U4_ok 100 rfl (by simp) ?_
   have hA := growP_cnt cuts paths f yes (ior .i64 no (Go.Pu.one (nextV cuts yes i))) (c + 1) (by omega)
   have D := hf yes (ior .i64 no (Go.Pu.one (nextV cuts yes i))) (c + 1) b (by omega) (by omega) (by omega)
   generalize hAe : (growP cuts paths f yes (ior .i64 no (Go.Pu.one (nextV cuts yes i))) (c + 1)) = A at *
   refine KW.go lay_ok U4_ok 100 rfl (by simp) ?_
   refine KW.join (I := fun _ : Unit => ⟨Tryz.f42.ntmps, [(0, .e (.r 0)), (3, .e (.r 3)), (4, .e (.r 4)), (9, sI (nextV cuts yes i : Int)), (10, .e (.r 10)), (11, .e (eV A.2.2))], [(0, .box 87 [lV cuts, lV paths, iV 0, .c (.lit (.slice none 0 0)), iV 0, iV (A.2.1)] (some b)), (3, .box 54 [iV yes, iV no] none), (4, .box 28 [iV 0, .c (.lit (.slice none 0 0)), iV 0] none), (10, .box 28 [iV (A.1).v, .c (A.1).ks, iV (A.1).r] none)]⟩) (R := fun _ => True) ?_ ?_
   ·refine KW.phases lay_ok U4_ok rfl 100 rfl (by simp) ?_
    refine KA.phase lay_ok U4_ok [0, 1, 2, 3, 4, 5, 6, 7, 8, 13] 9 (by decide +kernel) (by decide +kernel) rfl rfl ?_ (cs := [#[true, true, true, true, true, true, true, true, true, false, false, false, false, false, false, false], #[true, true, true, true, true, true, true, true, true, false, false, false, false, true, false, false]]) (by decide +kernel) ?_ (ds := []) (by decide +kernel) (fun L h => nomatch h)
    ·simp [inK, bitsI]; omega
    intro L hL
    simp only [List.mem_cons, List.not_mem_nil, or_false] at hL
    rcases hL with rfl | rfl
    ·refine ⟨_, rfl, ?_⟩
     refine KW.call0 D (enters Tryz.func42 rfl rfl) [(0, 0)] [(0, 0)] [] (.inl rfl) rfl rfl rfl rfl rfl trivial
      ⟨⟨_, _, rfl, trivial, (show Mt _ _ _ (EV.ren [(0, 0)] (.r 0)) (.r 0) from .same)⟩, ⟨_, _, rfl, trivial, (show Mt _ _ _ (EV.ren [(0, 0)] (cuV yes (ior .i64 no (Go.Pu.one (nextV cuts yes i))))) (cuV yes (ior .i64 no (Go.Pu.one (nextV cuts yes i)))) from .same)⟩, trivial⟩ rfl ⟨rfl, trivial⟩ rfl ⟨.inr ⟨rfl, .inr ⟨_, _, _, _, b, rfl, rfl⟩⟩, trivial⟩ rfl rfl (.inl rfl) ?_
     refine KW.go lay_ok U4_ok 10 rfl (by simp) (KW.stop ⟨rfl, ?_⟩)
     refine KA.phase lay_ok U4_ok [10, 11, 12, 13] 14 (by decide +kernel) (by decide +kernel) rfl rfl (by simp) (cs := [#[true, true, true, true, true, true, true, true, true, true, true, true, false, true, false, false], #[true, true, true, true, true, true, true, true, true, true, true, true, true, true, false, false]]) (by decide +kernel) ?_ (ds := []) (by decide +kernel) (fun L h => nomatch h)
     intro L hL
     simp only [List.mem_cons, List.not_mem_nil, or_false] at hL
     rcases hL with rfl | rfl
     ·refine ⟨_, rfl, KW.go lay_ok U4_ok 10 rfl (by simp) (KW.stop ⟨rfl, ?_⟩)⟩
      refine KA.phase lay_ok U4_ok [12, 15] 16 (by decide +kernel) (by decide +kernel) rfl rfl (by simp) (cs := []) (by decide +kernel) (fun L h => nomatch h) (ds := [#[true, true, true, true, true, true, true, true, true, true, true, true, true, true, true, true]]) (by decide +kernel) ?_
      intro L hL
      obtain rfl : L = #[true, true, true, true, true, true, true, true, true, true, true, true, true, true, true, true] := by simpa using hL
      exact KW.goToR lay_ok U4_ok 100 rfl () [(0, 0), (3, 3), (4, 4), (10, 10)] rfl rfl ⟨rfl, rfl, rfl, rfl, rfl, rfl, trivial⟩ (by simp) trivial ⟨rfl, rfl, rfl, rfl, trivial⟩
     ·refine ⟨_, rfl, KW.go lay_ok U4_ok 10 rfl (by simp) (KW.stop ⟨rfl, ?_⟩)⟩
      refine KA.phase lay_ok U4_ok [15] 16 (by decide +kernel) (by decide +kernel) rfl rfl (by simp) (cs := []) (by decide +kernel) (fun L h => nomatch h) (ds := [#[true, true, true, true, true, true, true, true, true, true, true, true, true, true, true, true]]) (by decide +kernel) ?_
      intro L hL
      obtain rfl : L = #[true, true, true, true, true, true, true, true, true, true, true, true, true, true, true, true] := by simpa using hL
      exact KW.goToR lay_ok U4_ok 100 rfl () [(0, 0), (3, 3), (4, 4), (10, 10)] rfl rfl ⟨rfl, rfl, rfl, rfl, rfl, rfl, trivial⟩ (by simp) trivial ⟨rfl, rfl, rfl, rfl, trivial⟩
    ·refine ⟨_, rfl, ?_⟩
     refine KW.call0 D (enters Tryz.func42 rfl rfl) [(0, 0)] [(0, 0)] [] (.inl rfl) rfl rfl rfl rfl rfl trivial
      ⟨⟨_, _, rfl, trivial, (show Mt _ _ _ (EV.ren [(0, 0)] (.r 0)) (.r 0) from .same)⟩, ⟨_, _, rfl, trivial, (show Mt _ _ _ (EV.ren [(0, 0)] (cuV yes (ior .i64 no (Go.Pu.one (nextV cuts yes i))))) (cuV yes (ior .i64 no (Go.Pu.one (nextV cuts yes i)))) from .same)⟩, trivial⟩ rfl ⟨rfl, trivial⟩ rfl ⟨.inr ⟨rfl, .inr ⟨_, _, _, _, b, rfl, rfl⟩⟩, trivial⟩ rfl rfl (.inl rfl) ?_
     refine KW.go lay_ok U4_ok 10 rfl (by simp) (KW.stop ⟨rfl, ?_⟩)
     refine KA.phase lay_ok U4_ok [10, 11, 12] 14 (by decide +kernel) (by decide +kernel) rfl rfl (by simp) (cs := [#[true, true, true, true, true, true, true, true, true, true, true, true, false, true, false, false], #[true, true, true, true, true, true, true, true, true, true, true, true, true, true, false, false]]) (by decide +kernel) ?_ (ds := []) (by decide +kernel) (fun L h => nomatch h)
     intro L hL
     simp only [List.mem_cons, List.not_mem_nil, or_false] at hL
     rcases hL with rfl | rfl
     ·refine ⟨_, rfl, KW.go lay_ok U4_ok 10 rfl (by simp) (KW.stop ⟨rfl, ?_⟩)⟩
      refine KA.phase lay_ok U4_ok [12, 15] 16 (by decide +kernel) (by decide +kernel) rfl rfl (by simp) (cs := []) (by decide +kernel) (fun L h => nomatch h) (ds := [#[true, true, true, true, true, true, true, true, true, true, true, true, true, true, true, true]]) (by decide +kernel) ?_
      intro L hL
      obtain rfl : L = #[true, true, true, true, true, true, true, true, true, true, true, true, true, true, true, true] := by simpa using hL
      exact KW.goToR lay_ok U4_ok 100 rfl () [(0, 0), (3, 3), (4, 4), (10, 10)] rfl rfl ⟨rfl, rfl, rfl, rfl, rfl, rfl, trivial⟩ (by simp) trivial ⟨rfl, rfl, rfl, rfl, trivial⟩
     ·refine ⟨_, rfl, KW.go lay_ok U4_ok 10 rfl (by simp) (KW.stop ⟨rfl, ?_⟩)⟩
      refine KA.phase lay_ok U4_ok [15] 16 (by decide +kernel) (by decide +kernel) rfl rfl (by simp) (cs := []) (by decide +kernel) (fun L h => nomatch h) (ds := [#[true, true, true, true, true, true, true, true, true, true, true, true, true, true, true, true]]) (by decide +kernel) ?_
      intro L hL
      obtain rfl : L = #[true, true, true, true, true, true, true, true, true, true, true, true, true, true, true, true] := by simpa using hL
      exact KW.goToR lay_ok U4_ok 100 rfl () [(0, 0), (3, 3), (4, 4), (10, 10)] rfl rfl ⟨rfl, rfl, rfl, rfl, rfl, rfl, trivial⟩ (by simp) trivial ⟨rfl, rfl, rfl, rfl, trivial⟩
   rintro _ _
   refine KW.goIf lay_ok U4_ok 100 rfl (by simp) rfl trivial (fun h => ?_) fun h => ?_
   ·have h5 : A.2.2 ≠ 0 := by simpa using h
    rw [if_neg h5]
    refine KW.go lay_ok U4_ok 100 rfl (by simp) ?_
    refine KW.convB 4 1 Tr.no.ks rfl rfl ⟨rfl, rfl⟩ ?_
    exact KW.finC [(0, 0)] rfl rfl rfl (by exact ⟨rfl, trivial⟩)
   have h5 : A.2.2 = 0 := by simpa using h
   rw [if_pos h5]
   have hA2 := hA.2 h5
   have D2 := hf (ior .i64 yes (Go.Pu.one (nextV cuts yes i))) no A.2.1 b (by omega) (by omega) hA2
   clear D
   generalize hBe : (growP cuts paths f (ior .i64 yes (Go.Pu.one (nextV cuts yes i))) no A.2.1) = B at *
   refine KW.go lay_ok U4_ok 100 rfl (by simp) ?_
   refine KW.join (I := fun _ : Unit => ⟨Tryz.f42.ntmps, [(4, .e (.r 4)), (9, sI (nextV cuts yes i : Int)), (10, .e (.r 10)), (12, .e (.r 12)), (11, .e (eV B.2.2))], [(0, .box 87 [lV cuts, lV paths, iV 0, .c (.lit (.slice none 0 0)), iV 0, iV (B.2.1)] (some b)), (4, .box 28 [iV 0, .c (.lit (.slice none 0 0)), iV 0] none), (10, .box 28 [iV (A.1).v, .c (A.1).ks, iV (A.1).r] none), (12, .box 28 [iV (B.1).v, .c (B.1).ks, iV (B.1).r] none)]⟩) (R := fun _ => True) ?_ ?_
   ·refine KW.phases lay_ok U4_ok rfl 100 rfl (by simp) ?_
    refine KA.phase lay_ok U4_ok [0, 1, 2, 3, 4, 5, 6, 7, 8, 13] 9 (by decide +kernel) (by decide +kernel) rfl rfl ?_ (cs := [#[true, true, true, true, true, true, true, true, true, false, false, false, false, false, false, false], #[true, true, true, true, true, true, true, true, true, false, false, false, false, true, false, false]]) (by decide +kernel) ?_ (ds := []) (by decide +kernel) (fun L h => nomatch h)
    ·simp [inK, bitsI]; omega
    intro L hL
    simp only [List.mem_cons, List.not_mem_nil, or_false] at hL
    rcases hL with rfl | rfl
    ·refine ⟨_, rfl, ?_⟩
     refine KW.call0 D2 (enters Tryz.func42 rfl rfl) [(0, 0)] [(0, 0)] [] (.inl rfl) rfl rfl rfl rfl rfl trivial
      ⟨⟨_, _, rfl, trivial, (show Mt _ _ _ (EV.ren [(0, 0)] (.r 0)) (.r 0) from .same)⟩, ⟨_, _, rfl, trivial, (show Mt _ _ _ (EV.ren [(0, 0)] (cuV (ior .i64 yes (Go.Pu.one (nextV cuts yes i))) no)) (cuV (ior .i64 yes (Go.Pu.one (nextV cuts yes i))) no) from .same)⟩, trivial⟩ rfl ⟨rfl, trivial⟩ rfl ⟨.inr ⟨rfl, .inr ⟨_, _, _, _, b, rfl, rfl⟩⟩, trivial⟩ rfl rfl (.inl rfl) ?_
     refine KW.go lay_ok U4_ok 10 rfl (by simp) (KW.stop ⟨rfl, ?_⟩)
     refine KA.phase lay_ok U4_ok [10, 11, 12, 13] 14 (by decide +kernel) (by decide +kernel) rfl rfl (by simp) (cs := [#[true, true, true, true, true, true, true, true, true, true, true, true, false, true, false, false], #[true, true, true, true, true, true, true, true, true, true, true, true, true, true, false, false]]) (by decide +kernel) ?_ (ds := []) (by decide +kernel) (fun L h => nomatch h)
     intro L hL
     simp only [List.mem_cons, List.not_mem_nil, or_false] at hL
     rcases hL with rfl | rfl
     ·refine ⟨_, rfl, KW.go lay_ok U4_ok 10 rfl (by simp) (KW.stop ⟨rfl, ?_⟩)⟩
      refine KA.phase lay_ok U4_ok [12, 15] 16 (by decide +kernel) (by decide +kernel) rfl rfl (by simp) (cs := []) (by decide +kernel) (fun L h => nomatch h) (ds := [#[true, true, true, true, true, true, true, true, true, true, true, true, true, true, true, true]]) (by decide +kernel) ?_
      intro L hL
      obtain rfl : L = #[true, true, true, true, true, true, true, true, true, true, true, true, true, true, true, true] := by simpa using hL
      exact KW.goToR lay_ok U4_ok 100 rfl () [(0, 0), (4, 4), (10, 10), (12, 12)] rfl rfl ⟨rfl, rfl, rfl, rfl, rfl, trivial⟩ (by simp) trivial ⟨rfl, rfl, rfl, rfl, trivial⟩
     ·refine ⟨_, rfl, KW.go lay_ok U4_ok 10 rfl (by simp) (KW.stop ⟨rfl, ?_⟩)⟩
      refine KA.phase lay_ok U4_ok [15] 16 (by decide +kernel) (by decide +kernel) rfl rfl (by simp) (cs := []) (by decide +kernel) (fun L h => nomatch h) (ds := [#[true, true, true, true, true, true, true, true, true, true, true, true, true, true, true, true]]) (by decide +kernel) ?_
      intro L hL
      obtain rfl : L = #[true, true, true, true, true, true, true, true, true, true, true, true, true, true, true, true] := by simpa using hL
      exact KW.goToR lay_ok U4_ok 100 rfl () [(0, 0), (4, 4), (10, 10), (12, 12)] rfl rfl ⟨rfl, rfl, rfl, rfl, rfl, trivial⟩ (by simp) trivial ⟨rfl, rfl, rfl, rfl, trivial⟩
    ·refine ⟨_, rfl, ?_⟩
     refine KW.call0 D2 (enters Tryz.func42 rfl rfl) [(0, 0)] [(0, 0)] [] (.inl rfl) rfl rfl rfl rfl rfl trivial
      ⟨⟨_, _, rfl, trivial, (show Mt _ _ _ (EV.ren [(0, 0)] (.r 0)) (.r 0) from .same)⟩, ⟨_, _, rfl, trivial, (show Mt _ _ _ (EV.ren [(0, 0)] (cuV (ior .i64 yes (Go.Pu.one (nextV cuts yes i))) no)) (cuV (ior .i64 yes (Go.Pu.one (nextV cuts yes i))) no) from .same)⟩, trivial⟩ rfl ⟨rfl, trivial⟩ rfl ⟨.inr ⟨rfl, .inr ⟨_, _, _, _, b, rfl, rfl⟩⟩, trivial⟩ rfl rfl (.inl rfl) ?_
     refine KW.go lay_ok U4_ok 10 rfl (by simp) (KW.stop ⟨rfl, ?_⟩)
     refine KA.phase lay_ok U4_ok [10, 11, 12] 14 (by decide +kernel) (by decide +kernel) rfl rfl (by simp) (cs := [#[true, true, true, true, true, true, true, true, true, true, true, true, false, true, false, false], #[true, true, true, true, true, true, true, true, true, true, true, true, true, true, false, false]]) (by decide +kernel) ?_ (ds := []) (by decide +kernel) (fun L h => nomatch h)
     intro L hL
     simp only [List.mem_cons, List.not_mem_nil, or_false] at hL
     rcases hL with rfl | rfl
     ·refine ⟨_, rfl, KW.go lay_ok U4_ok 10 rfl (by simp) (KW.stop ⟨rfl, ?_⟩)⟩
      refine KA.phase lay_ok U4_ok [12, 15] 16 (by decide +kernel) (by decide +kernel) rfl rfl (by simp) (cs := []) (by decide +kernel) (fun L h => nomatch h) (ds := [#[true, true, true, true, true, true, true, true, true, true, true, true, true, true, true, true]]) (by decide +kernel) ?_
      intro L hL
      obtain rfl : L = #[true, true, true, true, true, true, true, true, true, true, true, true, true, true, true, true] := by simpa using hL
      exact KW.goToR lay_ok U4_ok 100 rfl () [(0, 0), (4, 4), (10, 10), (12, 12)] rfl rfl ⟨rfl, rfl, rfl, rfl, rfl, trivial⟩ (by simp) trivial ⟨rfl, rfl, rfl, rfl, trivial⟩
     ·refine ⟨_, rfl, KW.go lay_ok U4_ok 10 rfl (by simp) (KW.stop ⟨rfl, ?_⟩)⟩
      refine KA.phase lay_ok U4_ok [15] 16 (by decide +kernel) (by decide +kernel) rfl rfl (by simp) (cs := []) (by decide +kernel) (fun L h => nomatch h) (ds := [#[true, true, true, true, true, true, true, true, true, true, true, true, true, true, true, true]]) (by decide +kernel) ?_
      intro L hL
      obtain rfl : L = #[true, true, true, true, true, true, true, true, true, true, true, true, true, true, true, true] := by simpa using hL
      exact KW.goToR lay_ok U4_ok 100 rfl () [(0, 0), (4, 4), (10, 10), (12, 12)] rfl rfl ⟨rfl, rfl, rfl, rfl, rfl, trivial⟩ (by simp) trivial ⟨rfl, rfl, rfl, rfl, trivial⟩
   rintro _ _
   refine KW.go lay_ok U4_ok 100 rfl (by simp) ?_
   refine KW.frz 111 [111] rfl rfl rfl ?_
   refine KW.go lay_ok U4_ok 100 rfl (by simp) ?_
   refine KW.convB 4 1 (Tr.two (nextV cuts yes i : Int) A.1 B.1).ks rfl rfl ?_ ?_
   ·exact two_rows _ _ _
   exact KW.finC [(0, 0)] rfl rfl rfl (by exact ⟨rfl, trivial⟩)
theorem cgrow_all (cuts paths : List Int) {n : Nat} (hn24 : n ≤ 24) (hcn : ∀ x ∈ cuts, inN n x) (hcl : cuts.length ≤ 1024) (hpl : paths.length ≤ 1024) : ∀ f, growOk cuts paths f
 | 0 => fun _ _ _ _ h => absurd h (Nat.not_lt_zero _)
 | f + 1 => cgrow_does cuts paths hn24 hcn hcl hpl f (cgrow_all cuts paths hn24 hcn hcl hpl f)
end Go.Proofs.YtocnofkagckhkaaGreatDoor
end
section
namespace Go.Proofs.YtocnofkagckhkaaGreatDoor
open Go.Sy Go.Pu Go.Proofs.YtocnofkagckhkaaGreatDoor.Tr
variable [Drw]
def Y0 : Fns := U6 ++ (K6 ++ G9)
theorem Y0_ok : FnsOk Tryz.prog Y0 := U6_ok.append (K6_ok.append G9_ok)
def fmC (f : FormP) : Nat -> CV := fun q => if q = 0 then .lit (.int .i64 f.vars) else if q = 1 then nodesC f.nodes else .lit (.int .i64 f.top)
theorem ccheck1_does (x : Int) (f : FormP) (h : 0 ≤ f.vars /\ f.vars ≤ 24) : DoesF Tryz.prog 37 [iV x, .pe 1 3 (fun _ q => fmC f q) 0 0] [] (sB (decide (x < 0) || decide (ishl 1 f.vars ≤ x))) [] := by
 refine DoesF.body _ Tryz.func37 rfl rfl rfl rfl ?_
 have hsh : 1 ≤ ishl 1 f.vars /\ ishl 1 f.vars ≤ 16777216 := by
  obtain ⟨n, hn⟩ := Int.eq_ofNat_of_zero_le h.1
  rw [hn, ishl_one]
  have h1 := Nat.two_pow_pos n
  have h2 : 2 ^ n ≤ 2 ^ 24 := Nat.pow_le_pow_right (by decide) (by omega)
  generalize 2 ^ n = P at *
  omega
 refine KW.goRet lay_ok Y0_ok 100 rfl rfl rfl ?_ trivial
 simp +contextual [inK, bitsI]
 omega
def covC (c : CovP) : List CV := [ints c.cuts, ints c.paths] ++ trC c.tree
theorem setE_any {vars : Int} {l : List Int} (h : ¬ 1024 < l.length) : setE vars l = if (l.any fun x => decide (x < 0) || decide (ishl 1 vars ≤ x)) = true then 3 else 0 := by
 rw [setE, if_neg h]
 have : (l.all fun s => decide (0 ≤ s) && decide (s < ishl 1 vars)) = !(l.any fun x => decide (x < 0) || decide (ishl 1 vars ≤ x)) := by
  rw [List.not_any_eq_all_not]
  congr 1
  funext x
  rw [Bool.not_or, <-decide_not, <-decide_not]
  congr 1 <;> exact decide_eq_decide.2 (by omega)
 rw [this]
 cases (l.any fun x => decide (x < 0) || decide (ishl 1 vars ≤ x)) <;> rfl
set_option maxHeartbeats 1600000 in
theorem ccheck_does (f : FormP) (c : CovP) (hin : FormIn f) (hct : c.tree.In) (hcl : c.cuts.length ≤ 1099511627776) (hpl : c.paths.length ≤ 1099511627776) : DoesF Tryz.prog 14 [.ag (formC f), .ag (covC c)] [] (.e (eV (covE f c))) [] := by
 refine DoesF.body _ Tryz.func14 rfl rfl rfl rfl ?_
 obtain ⟨vars, ns, top⟩ := f
 obtain ⟨cuts, paths, t⟩ := c
 refine KW.goIf lay_ok Y0_ok 100 rfl (by simp only [unN_nodesC, isN_nodesC, true_and, and_true, ifcV_errV]; simp [hin]) rfl trivial (fun h => ?_) fun h => ?_
 ·have h1 : formE ⟨vars, ns, top⟩ ≠ 0 := by simpa [unN_nodesC] using h
  have e : covE ⟨vars, ns, top⟩ ⟨cuts, paths, t⟩ = formE ⟨vars, ns, top⟩ := by rw [covE, pathE, if_neg h1, if_neg h1]
  refine KW.goRet lay_ok Y0_ok 100 rfl rfl ?_ (by simp) trivial
  simp only [unN_nodesC, e]; rfl
 have h1 : formE ⟨vars, ns, top⟩ = 0 := by simpa [unN_nodesC] using h
 refine KW.goIf lay_ok Y0_ok 100 rfl (by simp) rfl trivial (fun h => ?_) fun h => ?_
 ·have h2 : cohF ⟨vars, ns, top⟩ = false := by simpa [unN_nodesC, cohV, h1] using h
  have e : covE ⟨vars, ns, top⟩ ⟨cuts, paths, t⟩ = 7 := by simp [covE, pathE, h1, h2]
  refine KW.goRet lay_ok Y0_ok 100 rfl rfl ?_ (by simp) trivial
  rw [e]; rfl
 have h2 : cohF ⟨vars, ns, top⟩ = true := by simpa [unN_nodesC, cohV, h1] using h
 have hp : pathE ⟨vars, ns, top⟩ = 0 := by simp [pathE, h1, h2]
 have hvr := (formE_ok h1).vars
 simp only at hvr
 have hcov : ∀ q, q < 2 -> (∀ j, j < q -> setE vars ([cuts, paths].getD j []) = 0) -> setE vars ([cuts, paths].getD q []) ≠ 0 -> covE ⟨vars, ns, top⟩ ⟨cuts, paths, t⟩ = setE vars ([cuts, paths].getD q []) := fun q hq hj hne => by
  rw [covE, if_pos hp]
  match q, hq with
  | 0, _ => exact if_neg hne
  | 1, _ => rw [if_pos (show setE vars cuts = 0 from hj 0 (by decide))]; exact if_neg hne
 refine KW.go lay_ok Y0_ok 100 rfl (by simp) ?_
 refine KW.frz 26 [26] rfl rfl rfl ?_
 refine KW.conv 26 (intss [cuts, paths]) rfl ?_ ?_
 ·refine ⟨rfl, .inr ⟨rfl, fun e q he hq => ?_⟩⟩
  obtain rfl : q = 0 := Nat.lt_one_iff.1 hq
  match e, he with
  | 0, _ => exact CVEq.refl _
  | 1, _ => exact CVEq.refl _
 refine KW.goLpR lay_ok Y0_ok 100 rfl (I := fun q : Nat => ⟨Tryz.f14.ntmps, [(2, .e (.r 2)), (3, .e (.r 3)), (26, .e (.c (intss [cuts, paths]))), (27, sI 2), (28, sI q)], [(2, .box 24 [iV vars, .c (nodesC ns), iV top] none), (3, .box 30 [lV cuts, lV paths, iV t.v, .c t.ks, iV t.r] none)]⟩)
  (R := fun q => q ≤ 2 /\ ∀ j, j < q -> setE vars ([cuts, paths].getD j []) = 0) (m := fun q => 2 - q) 0 [(2, 2), (3, 3)] rfl rfl ⟨rfl, rfl, rfl, rfl, rfl, trivial⟩ (by simp) ⟨Nat.zero_le _, fun j hj => absurd hj (by omega)⟩ ⟨rfl, rfl, trivial⟩ ?_
 rintro q ⟨hq0, hz⟩
 refine KW.goIf lay_ok Y0_ok 100 rfl (by simp) rfl trivial (fun h => ?_) fun h => ?_
 ·have hq : q < 2 := by simp at h; omega
  have hlen : ([cuts, paths].getD q []).length ≤ 1099511627776 := by
   match q, hq with
   | 0, _ => exact hcl
   | 1, _ => exact hpl
  have hcq := hcov q hq hz
  have hgi : [cuts, paths].getD (Int.toNat (q : Int)) [] = [cuts, paths].getD q [] := by rw [Int.toNat_natCast]
  have hz2 : setE vars ([cuts, paths].getD q []) = 0 -> ∀ j, j < q + 1 -> setE vars ([cuts, paths].getD j []) = 0 := fun h0 j hj => by
   by_cases hjq : j = q
   ·rw [hjq]; exact h0
   ·exact hz j (by omega)
  generalize hX : [cuts, paths].getD q [] = X at *
  refine KW.goIf lay_ok Y0_ok 100 rfl ?_ rfl trivial (fun h => ?_) fun h => ?_
  ·simp [inK]
   omega
  ·have h3 : 1024 < X.length := by rw [hgi] at h; simp at h; omega
   have e : setE vars X = 4 := by rw [setE, if_pos h3]
   refine KW.goOutR lay_ok Y0_ok 100 rfl (by simp) ?_
   refine KW.goRet lay_ok Y0_ok 100 rfl rfl ?_ (by simp) trivial
   rw [hcq (by rw [e]; decide), e]; rfl
  have h3 : ¬ 1024 < X.length := by rw [hgi] at h; simp at h; omega
  refine KW.go lay_ok Y0_ok 100 rfl (by simp) ?_
  refine KW.callV0 (containsFunc_does (m := 1) (ks := fun _ => 3) (caps := fun _ => fmC ⟨vars, ns, top⟩) (p := fun x => decide (x < 0) || decide (ishl 1 vars ≤ x)) X ⟨enters Tryz.func37 rfl rfl, fun x _ => ccheck1_does x ⟨vars, ns, top⟩ hvr⟩) (enters Tryz.func36 rfl rfl) [2] (.inl rfl) rfl rfl rfl rfl rfl trivial
   ⟨⟨_, _, rfl, trivial, .conv (by rw [<-hgi]; exact CVEq.refl _)⟩, ⟨_, _, rfl, trivial, .lfn rfl ?_⟩, trivial⟩ rfl (.inr trivial) ?_
  ·intro j hj
   obtain rfl : j = 0 := by omega
   refine ⟨2, _, _, _, rfl, rfl, rfl, rfl, fun q hq => ?_⟩
   match q, hq with
   | 0, _ => rfl
   | 1, _ => rfl
   | 2, _ => rfl
  have hany := setE_any (vars := vars) h3
  refine KW.goIf lay_ok Y0_ok 100 rfl (by simp) rfl trivial (fun h => ?_) fun h => ?_
  ·rw [if_pos h] at hany
   refine KW.goOutR lay_ok Y0_ok 100 rfl (by simp) ?_
   refine KW.goRet lay_ok Y0_ok 100 rfl rfl ?_ (by simp) trivial
   rw [hcq (by rw [hany]; decide), hany]; rfl
  ·rw [if_neg (by rw [show (X.any fun x => decide (x < 0) || decide (ishl 1 vars ≤ x)) = false from h]; decide)] at hany
   refine KW.goToR lay_ok Y0_ok 100 rfl (q + 1) [(2, 2), (3, 3)] rfl rfl ⟨rfl, rfl, rfl, rfl, rfl, trivial⟩ (by simp [inK]; omega) ⟨⟨by omega, hz2 hany⟩, by omega⟩ ⟨rfl, rfl, trivial⟩
 ·have hq : q = 2 := by simp at h; omega
  subst hq
  refine KW.goOut lay_ok Y0_ok 100 rfl (by simp) ?_
  refine KW.goRet lay_ok Y0_ok 100 rfl rfl ?_ (by simp [unTr_cells]) trivial
  rw [unTr_cells, covE, if_pos hp, if_pos (show setE vars cuts = 0 from hz 0 (by decide)), if_pos (show setE vars paths = 0 from hz 1 (by decide))]; rfl
theorem shows_does (c : CovP) (l : LeafP) (hr : inK .i64 l.reason) (hcl : c.cuts.length ≤ 1024) (hpl : c.paths.length ≤ 1024) : DoesF Tryz.prog 69 [.ag (covC c), .ag (leafL l)] [] (sB (showsB c.cuts c.paths l)) [] := by
 refine DoesF.body _ Tryz.func69 rfl rfl rfl rfl ?_
 obtain ⟨cuts, paths, t⟩ := c
 obtain ⟨yes, no, r⟩ := l
 simp only [inK] at hr hcl hpl
 refine KW.goIf lay_ok Y0_ok 100 rfl (by simp) rfl trivial (fun h => ?_) fun h => ?_
 ·have h0 : 0 ≤ r := by simpa using h
  rw [showsB, if_pos h0]
  refine KW.goDV lay_ok Y0_ok rfl 100 rfl 19 30 0 rfl (by decide +kernel) (by decide +kernel) rfl rfl rfl (by simp) ?_ ?_
  ·simp +contextual [inK, h0]
  refine KW.goRet lay_ok Y0_ok 100 rfl rfl rfl (by simp) trivial
 have h0 : ¬ 0 ≤ r := by simpa using h
 rw [showsB, if_neg h0]
 refine KW.go lay_ok Y0_ok 100 rfl (by simp [inK]; omega) ?_
 refine KW.goDV lay_ok Y0_ok rfl 100 rfl 17 30 0 rfl (by decide +kernel) (by decide +kernel) rfl rfl rfl (by simp) ?_ ?_
 ·simp +contextual [inK, h0]
  omega
 exact KW.goRet lay_ok Y0_ok 100 rfl rfl rfl (by simp) trivial
end Go.Proofs.YtocnofkagckhkaaGreatDoor
end
section
namespace Go.Proofs.YtocnofkagckhkaaGreatDoor
open Go.Sy Go.Pu Go.Proofs.YtocnofkagckhkaaGreatDoor.Tr
variable [Drw]
theorem sindex_does (xs : List Int) (v : Int) : DoesF Tryz.prog 104 [.c (ints xs), iV v] [] (sI (idxV (fun x => v == x) xs)) [] := by
 refine DoesF.body _ Tryz.func104 rfl rfl rfl rfl ?_
 refine KW.len 0 rfl rfl fun hla => ?_
 refine KW.goLp lay_ok T9_ok 100 rfl (I := fun q : Nat => ⟨Tryz.f104.ntmps, [(0, .e (.c (ints xs))), (1, sI v), (7, sI xs.length), (8, sI q)], []⟩) (R := fun q => q ≤ xs.length /\ ∀ i, i < q -> (v == xs.getD i 0) = false) (m := fun q => xs.length - q) 0 rfl ⟨rfl, rfl, rfl, rfl, trivial⟩ (by simp) ⟨by simp, fun i hi => absurd hi (by omega)⟩ trivial ?_
 rintro q ⟨h1, h2⟩
 refine KW.goIf lay_ok T9_ok 100 rfl (by simp) rfl trivial (fun h => ?_) fun h => ?_
 ·have hq : q < xs.length := by simpa using h
  have hg : xs.getD (Int.toNat (q : Int)) 0 = xs.getD q 0 := by rw [Int.toNat_natCast]
  refine KW.goIf lay_ok T9_ok 100 rfl (by simp; omega) rfl trivial (fun h => ?_) fun h => ?_
  ·rw [hg] at h
   refine KW.goOutR lay_ok T9_ok 100 rfl (by simp) ?_
   refine KW.goRet lay_ok T9_ok 100 rfl rfl ?_ (by simp) trivial
   rw [idxV_some (p := fun x => v == x) (firstB_some hq h h2)]; rfl
  ·rw [hg] at h
   refine KW.goTo lay_ok T9_ok 100 rfl (q + 1) rfl ⟨rfl, rfl, rfl, rfl, trivial⟩ (by simp [inK]; omega) ⟨⟨by omega, fun i hi => ?_⟩, by omega⟩ trivial
   by_cases hiq : i = q
   ·subst hiq; exact h
   ·exact h2 i (by omega)
 ·have hq : q = xs.length := by simp at h; omega
  refine KW.goOut lay_ok T9_ok 100 rfl (by simp) ?_
  refine KW.goRet lay_ok T9_ok 100 rfl rfl ?_ (by simp) trivial
  rw [idxV_none (p := fun x => v == x) (firstB_none.2 fun i hi => h2 i (by omega))]; rfl
theorem idx_contains (xs : List Int) (v : Int) : decide (0 ≤ idxV (fun x => v == x) xs) = xs.contains v := by
 rw [Bool.eq_iff_iff, decide_eq_true_iff, List.contains_iff_mem]
 cases h : firstB (fun i => v == xs.getD i 0) xs.length with
 | some i =>
   rw [idxV_some (p := fun x => v == x) h]
   obtain ⟨h1, h2, _⟩ := firstB_spec h
   refine ⟨fun _ => ?_, fun _ => by omega⟩
   rw [beq_iff_eq.1 h2]
   exact getD_mem h1
 | none =>
   rw [idxV_none (p := fun x => v == x) h]
   refine ⟨fun h => absurd h (by decide), fun hm => ?_⟩
   exfalso
   obtain ⟨i, hi, he⟩ := List.getElem_of_mem hm
   have := firstB_none.1 h i hi
   rw [List.getD_eq_getElem?_getD, List.getElem?_eq_getElem hi, Option.getD_some, he] at this
   simp at this
theorem scontains_does (xs : List Int) (v : Int) : DoesF Tryz.prog 66 [.c (ints xs), iV v] [] (sB (xs.contains v)) [] := by
 refine DoesF.body _ Tryz.func66 rfl rfl rfl rfl ?_
 refine KW.go lay_ok T9_ok 100 rfl (by simp) ?_
 refine KW.callV0 (sindex_does xs v) (enters Tryz.func104 rfl rfl) [] (.inl rfl) rfl rfl rfl rfl rfl trivial ⟨⟨_, _, rfl, trivial, .conv (CVEq.refl _)⟩, ⟨_, _, rfl, trivial, .conv (CVEq.refl _)⟩, trivial⟩ rfl (.inl rfl) ?_
 refine KW.goRet lay_ok T9_ok 100 rfl rfl ?_ (by simp) trivial
 rw [<-idx_contains]; rfl
def Y1 : Fns := (66, fLI (fun l a => sB (l.contains a)) fun _ _ => True) ::
 Y0
theorem Y1_ok : FnsOk Tryz.prog Y1 := .cons (Y0_ok) Tryz.func66 rfl rfl (fLI_ok fun l a _ => scontains_does l a)
abbrev faV (x : Int × Int) : EV := .ag [.lit (.int .i64 x.1), .lit (.int .i64 x.2)]
theorem lvs_in (t : Tr) : gT t -> t.In -> ∀ (yes no : Int), ∀ l ∈ lvs t yes no, inK .i64 l.reason := by
 induction t using Tr.ind with
 | h t ih =>
   intro hg hin yes no l hl
   obtain ⟨iv, ir, ik⟩ := (Tr.in_iff t).1 hin
   rw [lvs_eq] at hl
   split at hl
   ·rename_i h2
    obtain ⟨_, _, _, _, g0, g1⟩ := gT_kids hg (by omega)
    rcases List.mem_append.1 hl with hl | hl
    ·exact ih 0 (by omega) g0 (ik 0 (by omega)) _ _ l hl
    ·exact ih 1 (by omega) g1 (ik 1 (by omega)) _ _ l hl
   ·rw [List.mem_singleton] at hl
    rw [hl]; exact ir
set_option maxHeartbeats 6400000 in
theorem cfault_does (f : FormP) (c : CovP) (hin : FormIn f) (hct : c.tree.In) (h0 : covE f c = 0) : DoesF Tryz.prog 34 [.ag (formC f), .ag (covC c)] [] (.tup [faV (faultV f c), eV 0]) [] := by
 refine DoesF.bodyC lay_ok _ Tryz.func34 rfl rfl rfl rfl ?_
 obtain ⟨e1, e2, e3, e4⟩ := covE_zero h0
 obtain ⟨hf0, hcoh⟩ := pathE_ok e1
 have hv := (formE_ok hf0).vars
 obtain ⟨n, hn⟩ := Int.eq_ofNat_of_zero_le (show 0 ≤ f.vars by omega)
 have hn24 : n ≤ 24 := by omega
 have hnn : f.vars.toNat = n := by omega
 obtain ⟨c1, c2⟩ := setE_zero hn24 (hn ▸ e2)
 obtain ⟨p1, p2⟩ := setE_zero hn24 (hn ▸ e3)
 have hsc : ∀ i, i < c.cuts.length -> pathSE f (c.cuts.getD i 0) = 0 := fun i hi => pathSE_in e1 hn hn24 (c2 _ (getD_mem hi))
 have hsp : ∀ i, i < c.paths.length -> pathSE f (c.paths.getD i 0) = 0 := fun i hi => pathSE_in e1 hn hn24 (p2 _ (getD_mem hi))
 obtain ⟨cuts, paths, t⟩ := c
 obtain ⟨vars, ns, top⟩ := f
 simp only at hsc hsp c1 p1 e4 hct
 refine KW.goLpR lay_ok Y1_ok 200 rfl (I := fun q : Nat => ⟨Tryz.f34.ntmps, [(2, .e (.r 2)), (3, .e (.r 3)), (4, .e (.r 4)), (23, .e (lV cuts)), (24, sI cuts.length), (25, sI q)], [(2, .box 24 [iV vars, .c (nodesC ns), iV top] none), (3, .box 30 [lV cuts, lV paths, iV t.v, .c t.ks, iV t.r] none), (4, .box 35 [iV 0, iV 0] none)]⟩)
  (R := fun q => q ≤ cuts.length /\ ∀ j, j < q -> bad1 ⟨vars, ns, top⟩ ⟨cuts, paths, t⟩ j = false) (m := fun q => cuts.length - q) 0 [(2, 2), (3, 3), (4, 4)] rfl rfl ⟨rfl, rfl, rfl, rfl, rfl, rfl, trivial⟩ (by simp) ⟨Nat.zero_le _, fun j hj => absurd hj (by omega)⟩ ⟨rfl, rfl, rfl, trivial⟩ ?_
 rintro q ⟨hq0, hz⟩
 refine KW.goIf lay_ok Y1_ok 100 rfl (by simp) rfl trivial (fun h => ?_) fun h => ?_
 ·have hq : q < cuts.length := by simp at h; omega
  have hgi : cuts.getD (Int.toNat (q : Int)) 0 = cuts.getD q 0 := by rw [Int.toNat_natCast]
  have hs := hsc q hq
  have hbad : (!isNilB (errV 47 (pathSE ⟨vars, unN (nodesC ns), top⟩ (cuts.getD (Int.toNat (q : Int)) 0))) || !isV ⟨vars, unN (nodesC ns), top⟩ (cuts.getD (Int.toNat (q : Int)) 0) false) = bad1 ⟨vars, ns, top⟩ ⟨cuts, paths, t⟩ q := by
   simp [isV, minV, bad1, bad2, bad3, unN_nodesC, hgi, hs, -List.getD_eq_getElem?_getD]
  refine KW.goIf lay_ok Y1_ok 100 rfl ?_ rfl trivial (fun h => ?_) fun h => ?_
  ·simp only [unN_nodesC, isN_nodesC, hgi, hs, true_and, and_true]
   simp +contextual [hin, inK, -List.getD_eq_getElem?_getD]
   omega
  ·have hb : bad1 ⟨vars, ns, top⟩ ⟨cuts, paths, t⟩ q = true := hbad.symm.trans h
   have e : faultV ⟨vars, ns, top⟩ ⟨cuts, paths, t⟩ = (1, (q : Int)) := by rw [faultV, firstB_some hq hb hz]
   refine KW.goOutR lay_ok Y1_ok 100 rfl (by simp) ?_
   refine KW.goRetC lay_ok Y1_ok 100 rfl rfl ?_ (by simp) trivial
   rw [e]; simp only [unN_nodesC, hgi, hs]; rfl
  have hb : bad1 ⟨vars, ns, top⟩ ⟨cuts, paths, t⟩ q = false := hbad.symm.trans h
  refine KW.goToR lay_ok Y1_ok 100 rfl (q + 1) [(2, 2), (3, 3), (4, 4)] rfl rfl ⟨rfl, rfl, rfl, rfl, rfl, rfl, trivial⟩ (by simp [inK]; omega) ⟨⟨by omega, fun j hj => ?_⟩, by omega⟩ ⟨rfl, rfl, rfl, trivial⟩
  by_cases hjq : j = q
  ·rw [hjq]; exact hb
  ·exact hz j (by omega)
 have hz1 : ∀ j, j < cuts.length -> bad1 ⟨vars, ns, top⟩ ⟨cuts, paths, t⟩ j = false := fun j hj => hz j (by simp at h; omega)
 have hn1 := firstB_none.2 hz1
 clear h hz hq0
 refine KW.goOut lay_ok Y1_ok 100 rfl (by simp) ?_
 refine KW.goLpR lay_ok Y1_ok 200 rfl (I := fun q : Nat => ⟨Tryz.f34.ntmps, [(2, .e (.r 2)), (3, .e (.r 3)), (4, .e (.r 4)), (47, .e (lV cuts)), (48, sI cuts.length), (49, sI q)], [(2, .box 24 [iV vars, .c (nodesC ns), iV top] none), (3, .box 30 [lV cuts, lV paths, iV t.v, .c t.ks, iV t.r] none), (4, .box 35 [iV 0, iV 0] none)]⟩)
  (R := fun q => q ≤ cuts.length /\ ∀ j, j < q -> bad2 ⟨vars, ns, top⟩ ⟨cuts, paths, t⟩ j = false) (m := fun q => cuts.length - q) 0 [(2, 2), (3, 3), (4, 4)] rfl rfl ⟨rfl, rfl, rfl, rfl, rfl, rfl, trivial⟩ (by simp) ⟨Nat.zero_le _, fun j hj => absurd hj (by omega)⟩ ⟨rfl, rfl, rfl, trivial⟩ ?_
 rintro q ⟨hq0, hz⟩
 refine KW.goIf lay_ok Y1_ok 100 rfl (by simp) rfl trivial (fun h => ?_) fun h => ?_
 ·have hq : q < cuts.length := by simp at h; omega
  have hgi : cuts.getD (Int.toNat (q : Int)) 0 = cuts.getD q 0 := by rw [Int.toNat_natCast]
  have hs := hsc q hq
  have htk : isI (.sl q 1 fun e _ => .lit (.int .i64 (cuts.getD e 0))) /\ unI (.sl q 1 fun e _ => .lit (.int .i64 (cuts.getD e 0))) = cuts.take q := isI_drop cuts q 0 (by omega)
  have hbad : ((!isNilB (errV 47 (pathSE ⟨vars, unN (nodesC ns), top⟩ (cuts.getD (Int.toNat (q : Int)) 0))) || !minV ⟨vars, unN (nodesC ns), top⟩ (cuts.getD (Int.toNat (q : Int)) 0) false) || (unI (.sl (Int.toNat (q : Int)) 1 fun e _ => .lit (.int .i64 (cuts.getD e 0)))).contains (cuts.getD (Int.toNat (q : Int)) 0)) = bad2 ⟨vars, ns, top⟩ ⟨cuts, paths, t⟩ q := by
   simp [isV, minV, bad1, bad2, bad3, unN_nodesC, hgi, hs, htk.2, -List.getD_eq_getElem?_getD]
  refine KW.goIf lay_ok Y1_ok 100 rfl ?_ rfl trivial (fun h => ?_) fun h => ?_
  ·simp only [unN_nodesC, isN_nodesC, hgi, hs, true_and, and_true]
   simp +contextual [hin, inK, htk.1, -List.getD_eq_getElem?_getD]
   omega
  ·have hb : bad2 ⟨vars, ns, top⟩ ⟨cuts, paths, t⟩ q = true := hbad.symm.trans h
   have e : faultV ⟨vars, ns, top⟩ ⟨cuts, paths, t⟩ = (2, (q : Int)) := by rw [faultV, hn1, firstB_some hq hb hz]
   refine KW.goOutR lay_ok Y1_ok 100 rfl (by simp) ?_
   refine KW.goRetC lay_ok Y1_ok 100 rfl rfl ?_ (by simp) trivial
   rw [e]; simp only [unN_nodesC, hgi, hs]; rfl
  have hb : bad2 ⟨vars, ns, top⟩ ⟨cuts, paths, t⟩ q = false := hbad.symm.trans h
  refine KW.goToR lay_ok Y1_ok 100 rfl (q + 1) [(2, 2), (3, 3), (4, 4)] rfl rfl ⟨rfl, rfl, rfl, rfl, rfl, rfl, trivial⟩ (by simp [inK]; omega) ⟨⟨by omega, fun j hj => ?_⟩, by omega⟩ ⟨rfl, rfl, rfl, trivial⟩
  by_cases hjq : j = q
  ·rw [hjq]; exact hb
  ·exact hz j (by omega)
 have hz2 : ∀ j, j < cuts.length -> bad2 ⟨vars, ns, top⟩ ⟨cuts, paths, t⟩ j = false := fun j hj => hz j (by simp at h; omega)
 have hn2 := firstB_none.2 hz2
 clear h hz hq0
 refine KW.goOut lay_ok Y1_ok 100 rfl (by simp) ?_
 refine KW.goLpR lay_ok Y1_ok 200 rfl (I := fun q : Nat => ⟨Tryz.f34.ntmps, [(2, .e (.r 2)), (3, .e (.r 3)), (4, .e (.r 4)), (79, .e (lV paths)), (80, sI paths.length), (81, sI q)], [(2, .box 24 [iV vars, .c (nodesC ns), iV top] none), (3, .box 30 [lV cuts, lV paths, iV t.v, .c t.ks, iV t.r] none), (4, .box 35 [iV 0, iV 0] none)]⟩)
  (R := fun q => q ≤ paths.length /\ ∀ j, j < q -> bad3 ⟨vars, ns, top⟩ ⟨cuts, paths, t⟩ j = false) (m := fun q => paths.length - q) 0 [(2, 2), (3, 3), (4, 4)] rfl rfl ⟨rfl, rfl, rfl, rfl, rfl, rfl, trivial⟩ (by simp) ⟨Nat.zero_le _, fun j hj => absurd hj (by omega)⟩ ⟨rfl, rfl, rfl, trivial⟩ ?_
 rintro q ⟨hq0, hz⟩
 refine KW.goIf lay_ok Y1_ok 100 rfl (by simp) rfl trivial (fun h => ?_) fun h => ?_
 ·have hq : q < paths.length := by simp at h; omega
  have hgi : paths.getD (Int.toNat (q : Int)) 0 = paths.getD q 0 := by rw [Int.toNat_natCast]
  have hs := hsp q hq
  have hbad : (!isNilB (errV 47 (pathSE ⟨vars, unN (nodesC ns), top⟩ (paths.getD (Int.toNat (q : Int)) 0))) || !isV ⟨vars, unN (nodesC ns), top⟩ (paths.getD (Int.toNat (q : Int)) 0) true) = bad3 ⟨vars, ns, top⟩ ⟨cuts, paths, t⟩ q := by
   simp [isV, minV, bad1, bad2, bad3, unN_nodesC, hgi, hs, -List.getD_eq_getElem?_getD]
  refine KW.goIf lay_ok Y1_ok 100 rfl ?_ rfl trivial (fun h => ?_) fun h => ?_
  ·simp only [unN_nodesC, isN_nodesC, hgi, hs, true_and, and_true]
   simp +contextual [hin, inK, -List.getD_eq_getElem?_getD]
   omega
  ·have hb : bad3 ⟨vars, ns, top⟩ ⟨cuts, paths, t⟩ q = true := hbad.symm.trans h
   have e : faultV ⟨vars, ns, top⟩ ⟨cuts, paths, t⟩ = (3, (q : Int)) := by rw [faultV, hn1, hn2, firstB_some hq hb hz]
   refine KW.goOutR lay_ok Y1_ok 100 rfl (by simp) ?_
   refine KW.goRetC lay_ok Y1_ok 100 rfl rfl ?_ (by simp) trivial
   rw [e]; simp only [unN_nodesC, hgi, hs]; rfl
  have hb : bad3 ⟨vars, ns, top⟩ ⟨cuts, paths, t⟩ q = false := hbad.symm.trans h
  refine KW.goToR lay_ok Y1_ok 100 rfl (q + 1) [(2, 2), (3, 3), (4, 4)] rfl rfl ⟨rfl, rfl, rfl, rfl, rfl, rfl, trivial⟩ (by simp [inK]; omega) ⟨⟨by omega, fun j hj => ?_⟩, by omega⟩ ⟨rfl, rfl, rfl, trivial⟩
  by_cases hjq : j = q
  ·rw [hjq]; exact hb
  ·exact hz j (by omega)
 have hz3 : ∀ j, j < paths.length -> bad3 ⟨vars, ns, top⟩ ⟨cuts, paths, t⟩ j = false := fun j hj => hz j (by simp at h; omega)
 have hn3 := firstB_none.2 hz3
 clear h hz hq0
 refine KW.goOut lay_ok Y1_ok 100 rfl (by simp) ?_
 refine KW.goIf lay_ok Y1_ok 200 rfl (by simp [unTr_cells]) rfl trivial (fun h => ?_) fun h => ?_
 ·exfalso
  simp [unTr_cells, e4] at h
 have hL : splL t vars = lvs t 0 0 := by rw [splL, if_pos e4]
 obtain ⟨hg, hc4⟩ := splE_g e4
 have hli := lvs_in t hg hct 0 0
 have hll := lvs_len t 0 0
 have hsz := szT_rng t
 simp only [unTr_cells, hL]
 have hb4 : ∀ j, bad4 ⟨cuts, paths, t⟩ j = !showsB cuts paths ((lvs t 0 0).getD j leaf0) := fun j => rfl
 have hfv : ∀ x, firstB (bad4 ⟨cuts, paths, t⟩) (lvs t 0 0).length = x -> faultV ⟨vars, ns, top⟩ ⟨cuts, paths, t⟩ = match x with
  | some i => (4, (i : Int))
  | none => (0, 0) := fun x hx => by rw [faultV, hn1, hn2, hn3, hx]; cases x <;> rfl
 generalize lvs t 0 0 = L at *
 refine KW.goLpR lay_ok Y1_ok 200 rfl (I := fun q : Nat => ⟨Tryz.f34.ntmps, [(3, .e (.r 3)), (4, .e (.r 4)), (114, .e (lvV L)), (115, sI L.length), (116, sI q)], [(3, .box 30 [lV cuts, lV paths, iV t.v, .c t.ks, iV t.r] none), (4, .box 35 [iV 0, iV 0] none)]⟩)
  (R := fun q => q ≤ L.length /\ ∀ j, j < q -> bad4 ⟨cuts, paths, t⟩ j = false) (m := fun q => L.length - q) 0 [(3, 3), (4, 4)] rfl rfl ⟨rfl, rfl, rfl, rfl, rfl, trivial⟩ (by simp) ⟨Nat.zero_le _, fun j hj => absurd hj (by omega)⟩ ⟨rfl, rfl, trivial⟩ ?_
 rintro q ⟨hq0, hz⟩
 refine KW.goIf lay_ok Y1_ok 100 rfl (by simp) rfl trivial (fun h => ?_) fun h => ?_
 ·have hq : q < L.length := by simp at h; omega
  have hgi : L.getD (Int.toNat (q : Int)) leaf0 = L.getD q leaf0 := by rw [Int.toNat_natCast]
  have hX : inK .i64 (L.getD q leaf0).reason := hli _ (by rw [List.getD_eq_getElem?_getD, List.getElem?_eq_getElem hq]; exact List.getElem_mem hq)
  refine KW.go lay_ok Y1_ok 100 rfl (by simp; omega) ?_
  refine KW.callV0 (shows_does ⟨cuts, paths, t⟩ (L.getD (Int.toNat (q : Int)) leaf0) (by rw [hgi]; exact hX) c1 p1) (enters Tryz.func69 rfl rfl) [] (.inl rfl) rfl rfl rfl rfl rfl trivial
   ⟨⟨_, _, rfl, trivial, (show Mt _ _ _ (EV.ren [] (.ag (covC ⟨cuts, paths, t⟩))) (.ag (covC ⟨cuts, paths, t⟩)) from .same)⟩, ⟨_, _, rfl, trivial, (show Mt _ _ _ (EV.ren [] (.ag (leafL (L.getD (Int.toNat (q : Int)) leaf0)))) (.ag (leafL (L.getD (Int.toNat (q : Int)) leaf0))) from .same)⟩, trivial⟩ rfl (.inl rfl) ?_
  refine KW.goIf lay_ok Y1_ok 100 rfl (by simp) rfl trivial (fun h => ?_) fun h => ?_
  ·have hb : bad4 ⟨cuts, paths, t⟩ q = true := by rw [hb4, <-hgi]; exact h
   refine KW.goOutR lay_ok Y1_ok 100 rfl (by simp) ?_
   refine KW.goRetC lay_ok Y1_ok 100 rfl rfl ?_ (by simp) trivial
   rw [hfv _ (firstB_some hq hb hz)]; rfl
  have hb : bad4 ⟨cuts, paths, t⟩ q = false := by rw [hb4, <-hgi]; exact h
  refine KW.goToR lay_ok Y1_ok 100 rfl (q + 1) [(3, 3), (4, 4)] rfl rfl ⟨rfl, rfl, rfl, rfl, rfl, trivial⟩ (by simp [inK]; omega) ⟨⟨by omega, fun j hj => ?_⟩, by omega⟩ ⟨rfl, rfl, trivial⟩
  by_cases hjq : j = q
  ·rw [hjq]; exact hb
  ·exact hz j (by omega)
 refine KW.goOut lay_ok Y1_ok 100 rfl (by simp) ?_
 refine KW.goRetC lay_ok Y1_ok 100 rfl rfl ?_ (by simp) trivial
 rw [hfv _ (firstB_none.2 fun j hj => hz j (by simp at h; omega))]; rfl
set_option maxHeartbeats 1600000 in
theorem cverify_does (f : FormP) (c : CovP) (hin : FormIn f) (hct : c.tree.In) (hcl : c.cuts.length ≤ 1099511627776) (hpl : c.paths.length ≤ 1099511627776) : DoesF Tryz.prog 12 [.ag (formC f), .ag (covC c)] [] (.tup [bV (decide (covE f c = 0) && decide ((faultV f c).1 = 0)), faV (if covE f c = 0 then faultV f c else (0, 0)), eV (covE f c)]) [] := by
 refine DoesF.bodyC lay_ok _ Tryz.func12 rfl rfl rfl rfl ?_
 refine KW.go lay_ok Y1_ok 100 rfl (by simp) ?_
 refine KW.callV0 (ccheck_does f c hin hct hcl hpl) (enters Tryz.func14 rfl rfl) [] (.inl rfl) rfl rfl rfl rfl rfl trivial
  ⟨⟨_, _, rfl, trivial, (show Mt _ _ _ (EV.ren [] (.ag (formC f))) (.ag (formC f)) from .same)⟩, ⟨_, _, rfl, trivial, (show Mt _ _ _ (EV.ren [] (.ag (covC c))) (.ag (covC c)) from .same)⟩, trivial⟩ rfl (.inl rfl) ?_
 refine KW.goIf lay_ok Y1_ok 100 rfl (by simp) rfl trivial (fun h => ?_) fun h => ?_
 ·have h1 : covE f c ≠ 0 := by simpa using h
  refine KW.goRetC lay_ok Y1_ok 100 rfl rfl ?_ (by simp) trivial
  rw [if_neg h1, decide_eq_false h1, Bool.false_and]; rfl
 have h1 : covE f c = 0 := by simpa using h
 rw [if_pos h1, decide_eq_true h1, Bool.true_and, h1]
 refine KW.go lay_ok Y1_ok 100 rfl (by simp) ?_
 refine KW.callV0 (cfault_does f c hin hct h1) (enters Tryz.func34 rfl rfl) [] (.inl rfl) rfl rfl rfl rfl rfl trivial
  ⟨⟨_, _, rfl, trivial, (show Mt _ _ _ (EV.ren [] (.ag (formC f))) (.ag (formC f)) from .same)⟩, ⟨_, _, rfl, trivial, (show Mt _ _ _ (EV.ren [] (.ag (covC c))) (.ag (covC c)) from .same)⟩, trivial⟩ rfl (.inl rfl) ?_
 refine KW.goIf lay_ok Y1_ok 100 rfl (by simp) rfl trivial (fun h => absurd h (by decide)) fun h => ?_
 refine KW.phases lay_ok Y1_ok rfl 100 rfl (by simp) ?_
 refine KA.phase lay_ok Y1_ok [0, 1, 2, 3, 4] 5 (by decide +kernel) (by decide +kernel) rfl rfl (by simp) (cs := [#[true, true, true, true, true, false, false]]) (by decide +kernel) ?_ (ds := []) (by decide +kernel) (fun L h => nomatch h)
 intro L hL
 obtain rfl : L = #[true, true, true, true, true, false, false] := by simpa using hL
 refine ⟨_, rfl, KW.go lay_ok Y1_ok 10 rfl (by simp) (KW.stop ⟨rfl, ?_⟩)⟩
 refine KA.phase lay_ok Y1_ok [6] 7 (by decide +kernel) (by decide +kernel) rfl rfl (by simp) (cs := []) (by decide +kernel) (fun L h => nomatch h) (ds := [#[true, true, true, true, true, true, true]]) (by decide +kernel) ?_
 intro L hL
 obtain rfl : L = #[true, true, true, true, true, true, true] := by simpa using hL
 refine KW.goRetC lay_ok Y1_ok 100 rfl rfl ?_ (by simp) trivial
 rfl
end Go.Proofs.YtocnofkagckhkaaGreatDoor
end
section
namespace Go.Proofs.YtocnofkagckhkaaGreatDoor
open Go.Sy Go.Pu Go.Proofs.YtocnofkagckhkaaGreatDoor.Tr
variable [Drw]
theorem rsets36_does (f : FormP) (l : List Int) (hv : 0 ≤ f.vars /\ f.vars ≤ 24) : DoesF Tryz.prog 32 [.ag (formC f), lV l] [] (sI (setE f.vars l)) [] := by
 refine DoesF.body _ Tryz.func32 rfl rfl rfl rfl ?_
 obtain ⟨vars, ns, top⟩ := f
 simp only at hv
 refine KW.goIf lay_ok Y1_ok 100 rfl (by simp) rfl trivial (fun h => ?_) fun h => ?_
 ·have h1 : 1024 < l.length := by simp at h; omega
  refine KW.goRet lay_ok Y1_ok 100 rfl rfl ?_ (by simp) trivial
  rw [setE, if_pos h1]; rfl
 have h1 : ¬ 1024 < l.length := by simp at h; omega
 simp only [setE, if_neg h1]
 refine KW.goLpR lay_ok Y1_ok 100 rfl (I := fun q : Nat => ⟨Tryz.f32.ntmps, [(2, .e (.r 2)), (10, .e (lV l)), (11, sI l.length), (12, sI q)], [(2, .box 24 [iV vars, .c (nodesC ns), iV top] none)]⟩)
  (R := fun q => q ≤ l.length /\ (l.take q).all (fun s => decide (0 ≤ s) && decide (s < ishl 1 vars)) = true) (m := fun q => l.length - q) 0 [(2, 2)] rfl rfl ⟨rfl, rfl, rfl, rfl, trivial⟩ (by simp) ⟨Nat.zero_le _, rfl⟩ ⟨rfl, trivial⟩ ?_
 rintro q ⟨hq0, hall⟩
 refine KW.goIf lay_ok Y1_ok 100 rfl (by simp) rfl trivial (fun h => ?_) fun h => ?_
 ·have hq : q < l.length := by simp at h; omega
  have hg : l.getD (Int.toNat (q : Int)) 0 = l[q] := by simp [List.getD_eq_getElem?_getD, hq]
  have htk : l.take (q + 1) = l.take q ++ [l[q]] := by rw [List.take_add_one, List.getElem?_eq_getElem hq]; rfl
  refine KW.goIf lay_ok Y1_ok 100 rfl ?_ rfl trivial (fun h => ?_) fun h => ?_
  ·simp only [unN_nodesC, isN_nodesC, true_and, and_true]
   simp
   omega
  ·have h3 : (decide (0 ≤ l[q]) && decide (l[q] < ishl 1 vars)) = false := by
    rw [hg] at h; rw [Bool.not_eq_true'] at h; exact h
   have h4 : (l.all fun s => decide (0 ≤ s) && decide (s < ishl 1 vars)) = false := by
    rw [List.all_eq_false]
    exact ⟨_, List.getElem_mem hq, by rw [h3]; decide⟩
   refine KW.goOutR lay_ok Y1_ok 100 rfl (by simp) ?_
   refine KW.goRet lay_ok Y1_ok 100 rfl rfl ?_ (by simp) trivial
   rw [h4]; rfl
  ·have h3 : (decide (0 ≤ l[q]) && decide (l[q] < ishl 1 vars)) = true := by
    rw [hg] at h; rw [Bool.not_eq_false'] at h; exact h
   refine KW.goToR lay_ok Y1_ok 100 rfl (q + 1) [(2, 2)] rfl rfl ⟨rfl, rfl, rfl, rfl, trivial⟩ (by simp [inK]; omega) ⟨⟨by omega, ?_⟩, by omega⟩ ⟨rfl, trivial⟩
   rw [htk, List.all_append, hall]
   simp only [List.all_cons, List.all_nil, Bool.and_true, h3, Bool.true_and]
 ·have hq : q = l.length := by simp at h; omega
  refine KW.goOut lay_ok Y1_ok 100 rfl (by simp) ?_
  refine KW.goRet lay_ok Y1_ok 100 rfl rfl ?_ (by simp) trivial
  rw [hq, List.take_length] at hall
  rw [hall]; rfl
theorem rcheck36_does (f : FormP) (c : CovP) (hin : FormIn f) : DoesF Tryz.prog 11 [.ag (formC f), .ag (covC c)] [] (sI (covE f c)) [] := by
 refine DoesF.body _ Tryz.func11 rfl rfl rfl rfl ?_
 obtain ⟨vars, ns, top⟩ := f
 obtain ⟨cuts, paths, t⟩ := c
 refine KW.goIf lay_ok Y1_ok 100 rfl (by simp only [unN_nodesC, isN_nodesC, true_and, and_true]; exact hin) rfl trivial (fun h => ?_) fun h => ?_
 ·have h1 : pathE ⟨vars, ns, top⟩ ≠ 0 := by simpa [unN_nodesC] using h
  refine KW.goRet lay_ok Y1_ok 100 rfl rfl ?_ (by simp) trivial
  rw [covE, if_neg h1]; simp only [unN_nodesC]; rfl
 have h1 : pathE ⟨vars, ns, top⟩ = 0 := by simpa [unN_nodesC] using h
 have hv := (formE_ok (pathE_ok h1).1).vars
 simp only at hv
 rw [covE, if_pos h1]
 refine KW.go lay_ok Y1_ok 100 rfl (by simp) ?_
 refine KW.callV0 (rsets36_does ⟨vars, ns, top⟩ cuts hv) (enters Tryz.func32 rfl rfl) [] (.inl rfl) rfl rfl rfl rfl rfl trivial
  ⟨⟨_, _, rfl, trivial, (show Mt _ _ _ (EV.ren [] (.ag (formC ⟨vars, ns, top⟩))) (.ag (formC ⟨vars, ns, top⟩)) from .same)⟩, ⟨_, _, rfl, trivial, .conv (CVEq.refl _)⟩, trivial⟩ rfl (.inl rfl) ?_
 simp only
 refine KW.goIf lay_ok Y1_ok 100 rfl (by simp) rfl trivial (fun h => ?_) fun h => ?_
 ·have h2 : setE vars cuts ≠ 0 := by simpa using h
  refine KW.goRet lay_ok Y1_ok 100 rfl rfl ?_ (by simp) trivial
  rw [if_neg h2]; rfl
 have h2 : setE vars cuts = 0 := by simpa using h
 rw [if_pos h2]
 refine KW.go lay_ok Y1_ok 100 rfl (by simp) ?_
 refine KW.callV0 (rsets36_does ⟨vars, ns, top⟩ paths hv) (enters Tryz.func32 rfl rfl) [] (.inl rfl) rfl rfl rfl rfl rfl trivial
  ⟨⟨_, _, rfl, trivial, (show Mt _ _ _ (EV.ren [] (.ag (formC ⟨vars, ns, top⟩))) (.ag (formC ⟨vars, ns, top⟩)) from .same)⟩, ⟨_, _, rfl, trivial, .conv (CVEq.refl _)⟩, trivial⟩ rfl (.inl rfl) ?_
 refine KW.goIf lay_ok Y1_ok 100 rfl (by simp) rfl trivial (fun h => ?_) fun h => ?_
 ·have h2 : setE vars paths ≠ 0 := by simpa using h
  refine KW.goRet lay_ok Y1_ok 100 rfl rfl ?_ (by simp) trivial
  rw [if_neg h2]; rfl
 have h3 : setE vars paths = 0 := by simpa using h
 rw [if_pos h3]
 refine KW.goRet lay_ok Y1_ok 100 rfl rfl ?_ (by simp [unTr_cells]) trivial
 simp only [unTr_cells]; rfl
theorem names_does (c : CovP) (l : LeafP) (hr : inK .i64 l.reason) (hr2 : l.reason ≠ -9223372036854775808 ∨ True) (hcl : c.cuts.length ≤ 1024) (hpl : c.paths.length ≤ 1024) : DoesF Tryz.prog 77 [.ag (covC c), .ag (leafL l)] [] (sB (showsB c.cuts c.paths l)) [] := by
 refine DoesF.body _ Tryz.func77 rfl rfl rfl rfl ?_
 obtain ⟨cuts, paths, t⟩ := c
 obtain ⟨yes, no, r⟩ := l
 simp only [inK] at hr hcl hpl
 refine KW.goIf lay_ok Y1_ok 100 rfl (by simp) rfl trivial (fun h => ?_) fun h => ?_
 ·have h0 : 0 ≤ r := by simpa using h
  rw [showsB, if_pos h0]
  refine KW.goDV lay_ok Y1_ok rfl 100 rfl 19 30 0 rfl (by decide +kernel) (by decide +kernel) rfl rfl rfl (by simp) ?_ ?_
  ·simp +contextual [inK, h0]
  refine KW.goRet lay_ok Y1_ok 100 rfl rfl rfl (by simp) trivial
 have h0 : ¬ 0 ≤ r := by simpa using h
 rw [showsB, if_neg h0, show -1 - r = -(r + 1) by omega]
 refine KW.go lay_ok Y1_ok 100 rfl (by simp [inK]; omega) ?_
 refine KW.goDV lay_ok Y1_ok rfl 100 rfl 17 30 0 rfl (by decide +kernel) (by decide +kernel) rfl rfl rfl (by simp) ?_ ?_
 ·simp +contextual [inK, h0]
  omega
 exact KW.goRet lay_ok Y1_ok 100 rfl rfl rfl (by simp) trivial
set_option maxHeartbeats 6400000 in
theorem rfault36_does (f : FormP) (c : CovP) (hin : FormIn f) (hct : c.tree.In) (h0 : covE f c = 0) : DoesF Tryz.prog 39 [.ag (formC f), .ag (covC c)] [] (.e (faV (faultV f c))) [] := by
 refine DoesF.bodyC lay_ok _ Tryz.func39 rfl rfl rfl rfl ?_
 obtain ⟨e1, e2, e3, e4⟩ := covE_zero h0
 obtain ⟨hf0, hcoh⟩ := pathE_ok e1
 have hv := (formE_ok hf0).vars
 obtain ⟨n, hn⟩ := Int.eq_ofNat_of_zero_le (show 0 ≤ f.vars by omega)
 have hn24 : n ≤ 24 := by omega
 have hnn : f.vars.toNat = n := by omega
 obtain ⟨c1, c2⟩ := setE_zero hn24 (hn ▸ e2)
 obtain ⟨p1, p2⟩ := setE_zero hn24 (hn ▸ e3)
 have hsc : ∀ i, i < c.cuts.length -> pathSE f (c.cuts.getD i 0) = 0 := fun i hi => pathSE_in e1 hn hn24 (c2 _ (getD_mem hi))
 have hsp : ∀ i, i < c.paths.length -> pathSE f (c.paths.getD i 0) = 0 := fun i hi => pathSE_in e1 hn hn24 (p2 _ (getD_mem hi))
 obtain ⟨cuts, paths, t⟩ := c
 obtain ⟨vars, ns, top⟩ := f
 simp only at hsc hsp c1 p1 e4 hct
 refine KW.goLpR lay_ok Y1_ok 200 rfl (I := fun q : Nat => ⟨Tryz.f39.ntmps, [(2, .e (.r 2)), (3, .e (.r 3)), (4, .e (.r 4)), (24, .e (lV cuts)), (25, sI cuts.length), (26, sI q)], [(2, .box 24 [iV vars, .c (nodesC ns), iV top] none), (3, .box 30 [lV cuts, lV paths, iV t.v, .c t.ks, iV t.r] none), (4, .box 35 [iV 0, iV 0] none)]⟩)
  (R := fun q => q ≤ cuts.length /\ ∀ j, j < q -> bad1 ⟨vars, ns, top⟩ ⟨cuts, paths, t⟩ j = false) (m := fun q => cuts.length - q) 0 [(2, 2), (3, 3), (4, 4)] rfl rfl ⟨rfl, rfl, rfl, rfl, rfl, rfl, trivial⟩ (by simp) ⟨Nat.zero_le _, fun j hj => absurd hj (by omega)⟩ ⟨rfl, rfl, rfl, trivial⟩ ?_
 rintro q ⟨hq0, hz⟩
 refine KW.goIf lay_ok Y1_ok 100 rfl (by simp) rfl trivial (fun h => ?_) fun h => ?_
 ·have hq : q < cuts.length := by simp at h; omega
  have hgi : cuts.getD (Int.toNat (q : Int)) 0 = cuts.getD q 0 := by rw [Int.toNat_natCast]
  have hs := hsc q hq
  have hbad : (!isV ⟨vars, unN (nodesC ns), top⟩ (cuts.getD (Int.toNat (q : Int)) 0) false) = bad1 ⟨vars, ns, top⟩ ⟨cuts, paths, t⟩ q := by
   simp [isV, bad1, bad3, unN_nodesC, hgi, hs, -List.getD_eq_getElem?_getD]
  refine KW.goIf lay_ok Y1_ok 100 rfl ?_ rfl trivial (fun h => ?_) fun h => ?_
  ·simp only [unN_nodesC, isN_nodesC, hgi, hs, true_and, and_true]
   simp +contextual [hin, inK, -List.getD_eq_getElem?_getD]
   omega
  ·have hb : bad1 ⟨vars, ns, top⟩ ⟨cuts, paths, t⟩ q = true := hbad.symm.trans h
   have e : faultV ⟨vars, ns, top⟩ ⟨cuts, paths, t⟩ = (1, (q : Int)) := by rw [faultV, firstB_some hq hb hz]
   refine KW.goOutR lay_ok Y1_ok 100 rfl (by simp) ?_
   refine KW.goRetC lay_ok Y1_ok 100 rfl rfl ?_ (by simp) trivial
   rw [e]; rfl
  have hb : bad1 ⟨vars, ns, top⟩ ⟨cuts, paths, t⟩ q = false := hbad.symm.trans h
  refine KW.goToR lay_ok Y1_ok 100 rfl (q + 1) [(2, 2), (3, 3), (4, 4)] rfl rfl ⟨rfl, rfl, rfl, rfl, rfl, rfl, trivial⟩ (by simp [inK]; omega) ⟨⟨by omega, fun j hj => ?_⟩, by omega⟩ ⟨rfl, rfl, rfl, trivial⟩
  by_cases hjq : j = q
  ·rw [hjq]; exact hb
  ·exact hz j (by omega)
 have hz1 : ∀ j, j < cuts.length -> bad1 ⟨vars, ns, top⟩ ⟨cuts, paths, t⟩ j = false := fun j hj => hz j (by simp at h; omega)
 have hn1 := firstB_none.2 hz1
 clear h hz hq0
 refine KW.goOut lay_ok Y1_ok 100 rfl (by simp) ?_
 refine KW.goLpR lay_ok Y1_ok 200 rfl (I := fun q : Nat => ⟨Tryz.f39.ntmps, [(2, .e (.r 2)), (3, .e (.r 3)), (4, .e (.r 4)), (43, .e (lV cuts)), (44, sI cuts.length), (45, sI q)], [(2, .box 24 [iV vars, .c (nodesC ns), iV top] none), (3, .box 30 [lV cuts, lV paths, iV t.v, .c t.ks, iV t.r] none), (4, .box 35 [iV 0, iV 0] none)]⟩)
  (R := fun q => q ≤ cuts.length /\ ∀ j, j < q -> bad2 ⟨vars, ns, top⟩ ⟨cuts, paths, t⟩ j = false) (m := fun q => cuts.length - q) 0 [(2, 2), (3, 3), (4, 4)] rfl rfl ⟨rfl, rfl, rfl, rfl, rfl, rfl, trivial⟩ (by simp) ⟨Nat.zero_le _, fun j hj => absurd hj (by omega)⟩ ⟨rfl, rfl, rfl, trivial⟩ ?_
 rintro q ⟨hq0, hz⟩
 refine KW.goIf lay_ok Y1_ok 100 rfl (by simp) rfl trivial (fun h => ?_) fun h => ?_
 ·have hq : q < cuts.length := by simp at h; omega
  have hgi : cuts.getD (Int.toNat (q : Int)) 0 = cuts.getD q 0 := by rw [Int.toNat_natCast]
  have hs := hsc q hq
  have htk : isI (.sl q 1 fun e _ => .lit (.int .i64 (cuts.getD e 0))) /\ unI (.sl q 1 fun e _ => .lit (.int .i64 (cuts.getD e 0))) = cuts.take q := isI_drop cuts q 0 (by omega)
  have hM : minV ⟨vars, ns, top⟩ (cuts.getD q 0) false = minP ⟨vars, ns, top⟩ (cuts.getD q 0) false vars.toNat := by rw [minV, hs, decide_eq_true rfl, Bool.true_and]
  have hb2 : bad2 ⟨vars, ns, top⟩ ⟨cuts, paths, t⟩ q = !(minP ⟨vars, ns, top⟩ (cuts.getD q 0) false vars.toNat && !((cuts.take q).contains (cuts.getD q 0))) := rfl
  generalize hv0 : cuts.getD q 0 = v at *
  refine KW.goLpR lay_ok Y1_ok 200 rfl (I := fun p : Nat => ⟨Tryz.f39.ntmps, [(2, .e (.r 2)), (3, .e (.r 3)), (4, .e (.r 4)), (9, sI q), (10, sI v), (11, sB (minV ⟨vars, ns, top⟩ v false && !((cuts.take p).contains v))), (43, .e (lV cuts)), (44, sI cuts.length), (45, sI q), (59, .e (.c (.sl q 1 fun e _ => .lit (.int .i64 (cuts.getD e 0))))), (60, sI q), (61, sI p)], [(2, .box 24 [iV vars, .c (nodesC ns), iV top] none), (3, .box 30 [lV cuts, lV paths, iV t.v, .c t.ks, iV t.r] none), (4, .box 35 [iV 0, iV 0] none)]⟩)
   (R := fun p => p ≤ q) (m := fun p => q - p) 0 [(2, 2), (3, 3), (4, 4)] rfl rfl ⟨rfl, rfl, rfl, rfl, by rw [<-hgi]; rfl, ?_, rfl, rfl, rfl, rfl, rfl, rfl, trivial⟩ ?_ (Nat.zero_le _) ⟨rfl, rfl, rfl, trivial⟩ ?_
  ·have e : (minV ⟨vars, ns, top⟩ v false && !((cuts.take 0).contains v)) = minV ⟨vars, unN (nodesC ns), top⟩ (cuts.getD (Int.toNat (q : Int)) 0) false := by
    rw [unN_nodesC, hgi]; simp
   rw [e]; rfl
  ·simp only [unN_nodesC, isN_nodesC, hgi, true_and, and_true]
   simp [hin, inK]
   omega
  ·intro p hp
   refine KW.goIf lay_ok Y1_ok 100 rfl (by simp) rfl trivial (fun h => ?_) fun h => ?_
   ·have hpq : p < q := by simp at h; omega
    have hgp : cuts.getD (Int.toNat (p : Int)) 0 = cuts[p] := by simp [List.getD_eq_getElem?_getD, show p < cuts.length by omega]
    have htk1 : cuts.take (p + 1) = cuts.take p ++ [cuts[p]] := by rw [List.take_add_one, List.getElem?_eq_getElem (by omega)]; rfl
    refine KW.goToR lay_ok Y1_ok 100 rfl (p + 1) [(2, 2), (3, 3), (4, 4)] rfl rfl ⟨rfl, rfl, rfl, rfl, rfl, ?_, rfl, rfl, rfl, rfl, rfl, rfl, trivial⟩ ?_ ⟨by omega, by omega⟩ ⟨rfl, rfl, rfl, trivial⟩
    ·have e2 : ((minV ⟨vars, ns, top⟩ v false && !((cuts.take p).contains v)) && (cuts.getD (Int.toNat (p : Int)) 0 != v)) = (minV ⟨vars, ns, top⟩ v false && !((cuts.take (p + 1)).contains v)) := by
      rw [hgp, htk1]
      have : (cuts.take p ++ [cuts[p]]).contains v = ((cuts.take p).contains v || (cuts[p] == v)) := by
       rw [Bool.eq_iff_iff, Bool.or_eq_true, List.contains_iff_mem, List.contains_iff_mem, List.mem_append, List.mem_singleton, beq_iff_eq, eq_comm (a := v)]
      rw [this, Bool.not_or, Bool.and_assoc]; rfl
     rw [<-e2]; rfl
    ·simp +contextual [inK]
     omega
   have hpe : p = q := by simp at h; omega
   subst hpe
   refine KW.goOut lay_ok Y1_ok 100 rfl (by simp) ?_
   have hbad : (!(minV ⟨vars, ns, top⟩ v false && !((cuts.take p).contains v))) = bad2 ⟨vars, ns, top⟩ ⟨cuts, paths, t⟩ p := by rw [hb2, hM]
   refine KW.goIf lay_ok Y1_ok 100 rfl (by simp) rfl trivial (fun h => ?_) fun h => ?_
   ·have hb : bad2 ⟨vars, ns, top⟩ ⟨cuts, paths, t⟩ p = true := hbad.symm.trans h
    have e : faultV ⟨vars, ns, top⟩ ⟨cuts, paths, t⟩ = (2, (p : Int)) := by rw [faultV, hn1, firstB_some hq hb hz]
    refine KW.goOutR lay_ok Y1_ok 100 rfl (by simp) ?_
    refine KW.goRetC lay_ok Y1_ok 100 rfl rfl ?_ (by simp) trivial
    rw [e]; rfl
   have hb : bad2 ⟨vars, ns, top⟩ ⟨cuts, paths, t⟩ p = false := hbad.symm.trans h
   refine KW.goToR lay_ok Y1_ok 100 rfl (p + 1) [(2, 2), (3, 3), (4, 4)] rfl rfl ⟨rfl, rfl, rfl, rfl, rfl, rfl, trivial⟩ (by simp [inK]; omega) ⟨⟨by omega, fun j hj => ?_⟩, by omega⟩ ⟨rfl, rfl, rfl, trivial⟩
   by_cases hjq : j = p
   ·rw [hjq]; exact hb
   ·exact hz j (by omega)
 have hz2 : ∀ j, j < cuts.length -> bad2 ⟨vars, ns, top⟩ ⟨cuts, paths, t⟩ j = false := fun j hj => hz j (by simp at h; omega)
 have hn2 := firstB_none.2 hz2
 clear h hz hq0
 refine KW.goOut lay_ok Y1_ok 100 rfl (by simp) ?_
 refine KW.goLpR lay_ok Y1_ok 200 rfl (I := fun q : Nat => ⟨Tryz.f39.ntmps, [(2, .e (.r 2)), (3, .e (.r 3)), (4, .e (.r 4)), (78, .e (lV paths)), (79, sI paths.length), (80, sI q)], [(2, .box 24 [iV vars, .c (nodesC ns), iV top] none), (3, .box 30 [lV cuts, lV paths, iV t.v, .c t.ks, iV t.r] none), (4, .box 35 [iV 0, iV 0] none)]⟩)
  (R := fun q => q ≤ paths.length /\ ∀ j, j < q -> bad3 ⟨vars, ns, top⟩ ⟨cuts, paths, t⟩ j = false) (m := fun q => paths.length - q) 0 [(2, 2), (3, 3), (4, 4)] rfl rfl ⟨rfl, rfl, rfl, rfl, rfl, rfl, trivial⟩ (by simp) ⟨Nat.zero_le _, fun j hj => absurd hj (by omega)⟩ ⟨rfl, rfl, rfl, trivial⟩ ?_
 rintro q ⟨hq0, hz⟩
 refine KW.goIf lay_ok Y1_ok 100 rfl (by simp) rfl trivial (fun h => ?_) fun h => ?_
 ·have hq : q < paths.length := by simp at h; omega
  have hgi : paths.getD (Int.toNat (q : Int)) 0 = paths.getD q 0 := by rw [Int.toNat_natCast]
  have hs := hsp q hq
  have hbad : (!isV ⟨vars, unN (nodesC ns), top⟩ (paths.getD (Int.toNat (q : Int)) 0) true) = bad3 ⟨vars, ns, top⟩ ⟨cuts, paths, t⟩ q := by
   simp [isV, bad1, bad3, unN_nodesC, hgi, hs, -List.getD_eq_getElem?_getD]
  refine KW.goIf lay_ok Y1_ok 100 rfl ?_ rfl trivial (fun h => ?_) fun h => ?_
  ·simp only [unN_nodesC, isN_nodesC, hgi, hs, true_and, and_true]
   simp +contextual [hin, inK, -List.getD_eq_getElem?_getD]
   omega
  ·have hb : bad3 ⟨vars, ns, top⟩ ⟨cuts, paths, t⟩ q = true := hbad.symm.trans h
   have e : faultV ⟨vars, ns, top⟩ ⟨cuts, paths, t⟩ = (3, (q : Int)) := by rw [faultV, hn1, hn2, firstB_some hq hb hz]
   refine KW.goOutR lay_ok Y1_ok 100 rfl (by simp) ?_
   refine KW.goRetC lay_ok Y1_ok 100 rfl rfl ?_ (by simp) trivial
   rw [e]; rfl
  have hb : bad3 ⟨vars, ns, top⟩ ⟨cuts, paths, t⟩ q = false := hbad.symm.trans h
  refine KW.goToR lay_ok Y1_ok 100 rfl (q + 1) [(2, 2), (3, 3), (4, 4)] rfl rfl ⟨rfl, rfl, rfl, rfl, rfl, rfl, trivial⟩ (by simp [inK]; omega) ⟨⟨by omega, fun j hj => ?_⟩, by omega⟩ ⟨rfl, rfl, rfl, trivial⟩
  by_cases hjq : j = q
  ·rw [hjq]; exact hb
  ·exact hz j (by omega)
 have hz3 : ∀ j, j < paths.length -> bad3 ⟨vars, ns, top⟩ ⟨cuts, paths, t⟩ j = false := fun j hj => hz j (by simp at h; omega)
 have hn3 := firstB_none.2 hz3
 clear h hz hq0
 refine KW.goOut lay_ok Y1_ok 100 rfl (by simp) ?_
 refine KW.go lay_ok Y1_ok 200 rfl (by simp [unTr_cells]) ?_
 have hL : splL t vars = lvs t 0 0 := by rw [splL, if_pos e4]
 obtain ⟨hg, hc4⟩ := splE_g e4
 have hli := lvs_in t hg hct 0 0
 have hll := lvs_len t 0 0
 have hsz := szT_rng t
 simp only [unTr_cells, hL]
 have hb4 : ∀ j, bad4 ⟨cuts, paths, t⟩ j = !showsB cuts paths ((lvs t 0 0).getD j leaf0) := fun j => rfl
 have hfv : ∀ x, firstB (bad4 ⟨cuts, paths, t⟩) (lvs t 0 0).length = x -> faultV ⟨vars, ns, top⟩ ⟨cuts, paths, t⟩ = match x with
  | some i => (4, (i : Int))
  | none => (0, 0) := fun x hx => by rw [faultV, hn1, hn2, hn3, hx]; cases x <;> rfl
 generalize lvs t 0 0 = L at *
 refine KW.goLpR lay_ok Y1_ok 200 rfl (I := fun q : Nat => ⟨Tryz.f39.ntmps, [(3, .e (.r 3)), (4, .e (.r 4)), (104, .e (lvV L)), (105, sI L.length), (106, sI q)], [(3, .box 30 [lV cuts, lV paths, iV t.v, .c t.ks, iV t.r] none), (4, .box 35 [iV 0, iV 0] none)]⟩)
  (R := fun q => q ≤ L.length /\ ∀ j, j < q -> bad4 ⟨cuts, paths, t⟩ j = false) (m := fun q => L.length - q) 0 [(3, 3), (4, 4)] rfl rfl ⟨rfl, rfl, rfl, rfl, rfl, trivial⟩ (by simp) ⟨Nat.zero_le _, fun j hj => absurd hj (by omega)⟩ ⟨rfl, rfl, trivial⟩ ?_
 rintro q ⟨hq0, hz⟩
 refine KW.goIf lay_ok Y1_ok 100 rfl (by simp) rfl trivial (fun h => ?_) fun h => ?_
 ·have hq : q < L.length := by simp at h; omega
  have hgi : L.getD (Int.toNat (q : Int)) leaf0 = L.getD q leaf0 := by rw [Int.toNat_natCast]
  have hX : inK .i64 (L.getD q leaf0).reason := hli _ (by rw [List.getD_eq_getElem?_getD, List.getElem?_eq_getElem hq]; exact List.getElem_mem hq)
  refine KW.go lay_ok Y1_ok 100 rfl (by simp; omega) ?_
  refine KW.callV0 (names_does ⟨cuts, paths, t⟩ (L.getD (Int.toNat (q : Int)) leaf0) (by rw [hgi]; exact hX) (.inr trivial) c1 p1) (enters Tryz.func77 rfl rfl) [] (.inl rfl) rfl rfl rfl rfl rfl trivial
   ⟨⟨_, _, rfl, trivial, (show Mt _ _ _ (EV.ren [] (.ag (covC ⟨cuts, paths, t⟩))) (.ag (covC ⟨cuts, paths, t⟩)) from .same)⟩, ⟨_, _, rfl, trivial, (show Mt _ _ _ (EV.ren [] (.ag (leafL (L.getD (Int.toNat (q : Int)) leaf0)))) (.ag (leafL (L.getD (Int.toNat (q : Int)) leaf0))) from .same)⟩, trivial⟩ rfl (.inl rfl) ?_
  refine KW.goIf lay_ok Y1_ok 100 rfl (by simp) rfl trivial (fun h => ?_) fun h => ?_
  ·have hb : bad4 ⟨cuts, paths, t⟩ q = true := by rw [hb4, <-hgi]; exact h
   refine KW.goOutR lay_ok Y1_ok 100 rfl (by simp) ?_
   refine KW.goRetC lay_ok Y1_ok 100 rfl rfl ?_ (by simp) trivial
   rw [hfv _ (firstB_some hq hb hz)]; rfl
  have hb : bad4 ⟨cuts, paths, t⟩ q = false := by rw [hb4, <-hgi]; exact h
  refine KW.goToR lay_ok Y1_ok 100 rfl (q + 1) [(3, 3), (4, 4)] rfl rfl ⟨rfl, rfl, rfl, rfl, rfl, trivial⟩ (by simp [inK]; omega) ⟨⟨by omega, fun j hj => ?_⟩, by omega⟩ ⟨rfl, rfl, trivial⟩
  by_cases hjq : j = q
  ·rw [hjq]; exact hb
  ·exact hz j (by omega)
 refine KW.goOut lay_ok Y1_ok 100 rfl (by simp) ?_
 refine KW.goRetC lay_ok Y1_ok 100 rfl rfl ?_ (by simp) trivial
 rw [hfv _ (firstB_none.2 fun j hj => hz j (by simp at h; omega))]; rfl
theorem fault_pair (f : FormP) (c : CovP) : decide ([(faultV f c).1, (faultV f c).2] = [0, 0]) = decide ((faultV f c).1 = 0) := by
 by_cases h : (faultV f c).1 = 0
 ·rw [fault_zero' h]; rfl
 ·simp [h]
set_option maxHeartbeats 1600000 in
theorem rverify36_does (f : FormP) (c : CovP) (hin : FormIn f) (hct : c.tree.In) : DoesF Tryz.prog 15 [.ag (formC f), .ag (covC c)] [] (.tup [bV (decide (covE f c = 0) && decide ((faultV f c).1 = 0)), faV (if covE f c = 0 then faultV f c else (0, 0)), iV (covE f c)]) [] := by
 refine DoesF.bodyC lay_ok _ Tryz.func15 rfl rfl rfl rfl ?_
 refine KW.go lay_ok Y1_ok 100 rfl (by simp) ?_
 refine KW.callV0 (rcheck36_does f c hin) (enters Tryz.func11 rfl rfl) [] (.inl rfl) rfl rfl rfl rfl rfl trivial
  ⟨⟨_, _, rfl, trivial, (show Mt _ _ _ (EV.ren [] (.ag (formC f))) (.ag (formC f)) from .same)⟩, ⟨_, _, rfl, trivial, (show Mt _ _ _ (EV.ren [] (.ag (covC c))) (.ag (covC c)) from .same)⟩, trivial⟩ rfl (.inl rfl) ?_
 refine KW.goIf lay_ok Y1_ok 100 rfl (by simp) rfl trivial (fun h => ?_) fun h => ?_
 ·have h1 : covE f c ≠ 0 := by simpa using h
  refine KW.goRetC lay_ok Y1_ok 100 rfl rfl ?_ (by simp) trivial
  rw [if_neg h1, decide_eq_false h1, Bool.false_and]; rfl
 have h1 : covE f c = 0 := by simpa using h
 rw [if_pos h1, decide_eq_true h1, Bool.true_and, h1]
 refine KW.go lay_ok Y1_ok 100 rfl (by simp) ?_
 refine KW.callV0 (rfault36_does f c hin hct h1) (enters Tryz.func39 rfl rfl) [] (.inl rfl) rfl rfl rfl rfl rfl trivial
  ⟨⟨_, _, rfl, trivial, (show Mt _ _ _ (EV.ren [] (.ag (formC f))) (.ag (formC f)) from .same)⟩, ⟨_, _, rfl, trivial, (show Mt _ _ _ (EV.ren [] (.ag (covC c))) (.ag (covC c)) from .same)⟩, trivial⟩ rfl (.inl rfl) ?_
 refine KW.phases lay_ok Y1_ok rfl 100 rfl (by simp) ?_
 refine KA.phase lay_ok Y1_ok [0, 1, 2, 3, 4] 5 (by decide +kernel) (by decide +kernel) rfl rfl (by simp) (cs := [#[true, true, true, true, true, false, false]]) (by decide +kernel) ?_ (ds := []) (by decide +kernel) (fun L h => nomatch h)
 intro L hL
 obtain rfl : L = #[true, true, true, true, true, false, false] := by simpa using hL
 refine ⟨_, rfl, KW.go lay_ok Y1_ok 10 rfl (by simp) (KW.stop ⟨rfl, ?_⟩)⟩
 refine KA.phase lay_ok Y1_ok [6] 7 (by decide +kernel) (by decide +kernel) rfl rfl (by simp) (cs := []) (by decide +kernel) (fun L h => nomatch h) (ds := [#[true, true, true, true, true, true, true]]) (by decide +kernel) ?_
 intro L hL
 obtain rfl : L = #[true, true, true, true, true, true, true] := by simpa using hL
 refine KW.goRetC lay_ok Y1_ok 100 rfl rfl ?_ (by simp) trivial
 rw [<-fault_pair]; rfl
end Go.Proofs.YtocnofkagckhkaaGreatDoor
end
section
namespace Go.Proofs.YtocnofkagckhkaaGreatDoor
open Go.Sy Go.Pu Go.Proofs.YtocnofkagckhkaaGreatDoor.Tr
variable [Drw]
theorem pathsV_zero {f : FormP} (h : (pathsV f).2 = 0) : (pathsV f).1 = pathsL f /\ pathE f = 0 /\ pathsE f = 0 := by
 unfold pathsV at h ⊢
 split at h
 ·rename_i h1
  rw [if_pos h1]
  exact ⟨rfl, h1, h⟩
 ·rename_i h1; exact absurd h h1
set_option maxHeartbeats 1600000 in
theorem cmake_does (f : FormP) (hin : FormIn f) : DoesF Tryz.prog 16 [.ag (formC f)] [] (.tup [.ag (covC (makeC f)), eV (makeE f)]) [] := by
 refine DoesF.bodyC lay_ok _ Tryz.func16 rfl rfl rfl rfl ?_
 obtain ⟨vars, ns, top⟩ := f
 refine KW.goIf lay_ok Y1_ok 100 rfl (by simp only [unN_nodesC, isN_nodesC, true_and, and_true, ifcV_errV]; exact hin) rfl trivial (fun h => ?_) fun h => ?_
 ·have h1 : (pathsV ⟨vars, ns, top⟩).2 ≠ 0 := by simpa [unN_nodesC] using h
  refine KW.go lay_ok Y1_ok 100 rfl (by simp) ?_
  refine KW.convB 2 0 (ints []) rfl rfl ⟨rfl, rfl⟩ ?_
  refine KW.convB 2 1 (ints []) rfl rfl ⟨rfl, rfl⟩ ?_
  refine KW.convB 2 3 Tr.no.ks rfl rfl ⟨rfl, rfl⟩ ?_
  refine KW.finC [] rfl rfl ?_ trivial
  have e : makeE ⟨vars, ns, top⟩ = (pathsV ⟨vars, ns, top⟩).2 := by rw [makeE, if_neg h1]
  simp only [unN_nodesC, makeC, e, if_neg h1]; rfl
 have h1 : (pathsV ⟨vars, ns, top⟩).2 = 0 := by simpa [unN_nodesC] using h
 obtain ⟨p1, p2, p3⟩ := pathsV_zero h1
 have hv := (formE_ok (pathE_ok p2).1).vars
 obtain ⟨n, hn⟩ := Int.eq_ofNat_of_zero_le (show 0 ≤ vars from hv.1)
 have hn24 : n ≤ 24 := by simp only at hv; omega
 have hmk : makeE ⟨vars, ns, top⟩ = if hitE (pathsL ⟨vars, ns, top⟩) = 0 then (makeG ⟨vars, ns, top⟩).2.2 else hitE (pathsL ⟨vars, ns, top⟩) := by rw [makeE, if_pos h1]
 simp only [unN_nodesC, p1]
 refine KW.goIf lay_ok Y1_ok 100 rfl (by simp) rfl trivial (fun h => ?_) fun h => ?_
 ·have h2 : hitE (pathsL ⟨vars, ns, top⟩) ≠ 0 := by simpa using h
  refine KW.go lay_ok Y1_ok 100 rfl (by simp) ?_
  refine KW.convB 2 0 (ints []) rfl rfl ⟨rfl, rfl⟩ ?_
  refine KW.convB 2 1 (ints []) rfl rfl ⟨rfl, rfl⟩ ?_
  refine KW.convB 2 3 Tr.no.ks rfl rfl ⟨rfl, rfl⟩ ?_
  refine KW.finC [] rfl rfl ?_ trivial
  rw [if_neg h2] at hmk
  simp only [unI_ints, makeC, hmk, if_neg h2]; rfl
 have h2 : hitE (pathsL ⟨vars, ns, top⟩) = 0 := by simpa using h
 rw [if_pos h2] at hmk
 simp only [unI_ints, if_pos h2]
 obtain ⟨_, hpf⟩ := path_facts p2 hn
 obtain ⟨f1, f2, f3⟩ := hpf p3
 have hin2 := hit_in hn p2 p3 h2
 have hfam := (hit_facts p2 hn p3 h2).2.1
 refine KW.go lay_ok Y1_ok 100 rfl (by simp) ?_
 refine KW.name 7 rfl fun b => ?_
 have D := cgrow_all (hitL (pathsL ⟨vars, ns, top⟩)) (pathsL ⟨vars, ns, top⟩) hn24 (fun x hx => (hin2 x hx).1) hfam.len f1.1.len 25 0 0 0 b (Nat.lt_succ_of_le (free_le 0 0)) (by decide) (by decide)
 rw [show growP (hitL (pathsL ⟨vars, ns, top⟩)) (pathsL ⟨vars, ns, top⟩) 25 0 0 0 = makeG ⟨vars, ns, top⟩ from rfl] at D
 have hmc : makeC ⟨vars, ns, top⟩ = if makeE ⟨vars, ns, top⟩ = 0 then ⟨hitL (pathsL ⟨vars, ns, top⟩), pathsL ⟨vars, ns, top⟩, (makeG ⟨vars, ns, top⟩).1⟩ else ⟨[], [], .no⟩ := rfl
 rw [hmk] at hmc ⊢
 rw [hmc]
 generalize makeG ⟨vars, ns, top⟩ = G at *
 generalize hitL (pathsL ⟨vars, ns, top⟩) = H at *
 generalize pathsL ⟨vars, ns, top⟩ = P at *
 refine KW.call0 D (enters Tryz.func42 rfl rfl) [(0, 7)] [(0, 7)] [] (.inl rfl) rfl rfl rfl rfl rfl trivial
  ⟨⟨_, _, rfl, trivial, (show Mt _ _ _ (EV.ren [(0, 7)] (.r 0)) (.r 0) from .same)⟩, ⟨_, _, rfl, trivial, (show Mt _ _ _ (EV.ren [(0, 7)] (cuV 0 0)) (cuV 0 0) from .same)⟩, trivial⟩ rfl ⟨rfl, trivial⟩ rfl ⟨.inr ⟨rfl, .inr ⟨_, _, _, _, b, rfl, rfl⟩⟩, trivial⟩ rfl rfl (.inl rfl) ?_
 refine KW.goIf lay_ok Y1_ok 100 rfl (by simp) rfl trivial (fun h => ?_) fun h => ?_
 ·have h3 : G.2.2 ≠ 0 := by simpa using h
  refine KW.go lay_ok Y1_ok 100 rfl (by simp) ?_
  refine KW.convB 2 0 (ints []) rfl rfl ⟨rfl, rfl⟩ ?_
  refine KW.convB 2 1 (ints []) rfl rfl ⟨rfl, rfl⟩ ?_
  refine KW.convB 2 3 Tr.no.ks rfl rfl ⟨rfl, rfl⟩ ?_
  refine KW.finC [] rfl rfl ?_ trivial
  rw [if_neg h3]; rfl
 have h3 : G.2.2 = 0 := by simpa using h
 rw [if_pos h3, h3]
 exact KW.goRetC lay_ok Y1_ok 100 rfl rfl rfl (by simp) trivial
end Go.Proofs.YtocnofkagckhkaaGreatDoor
end
