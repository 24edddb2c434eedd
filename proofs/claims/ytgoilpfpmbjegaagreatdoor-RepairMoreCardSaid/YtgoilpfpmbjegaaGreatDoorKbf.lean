/-
 SyZ, SyV, TrC, TrF, TrG, TrH, TrW, TrI, RpA, RpB, RpC, RpD, RpE, RpF, RpG, RpH, RpI, one text.
-/
import Derived.Test.YtgoilpfpmbjegaaGreatDoorKbe
import Derived.Lib.ItoaNum
import Derived.Lib.Atoi
import Derived.Lib.SliceRun
import Derived.KernelRfl
set_option linter.unusedSectionVars false
set_option linter.unusedVariables false
set_option linter.unusedSimpArgs false
section
namespace Go.Sy
variable [Drw]
section
variable {P : Program} {lay : Lay} {A A' B : St} {Q : Exit -> St -> Prop} {fns : Fns} {o : Nat -> Tag} {h : Nat -> Value} {tm : Array Value} {w : World}
theorem srcOf_upS (hle : St.sub B A) {i : Nat} {x : Operand} {r : CV × Prop} (hr : srcOf B i x = some r) : srcOf A i x = some r := by
 unfold srcOf at hr ⊢
 split at hr
 ·rename_i e; rw [rd_upS hle e]; exact hr
 ·rename_i j p e
  rw [rd_upS hle e]
  dsimp only
  split at hr
  ·rename_i e2
   rw [hle.rs _ _ e2]; exact hr
  ·cases hr
 ·cases hr
theorem evA_up (hle : St.sub B A) {op : Oper} {d : Nat} (hd : op.dst = some d) (hf : qW9 A d = true) {n : Nat} {sl : List (Nat × SV)} {r1 r2 : Nat × Res} {rs : List (Nat × Res)} {φ : Prop} (he : evA lay B op = some (⟨n, sl, r1 :: r2 :: rs⟩, φ)) :
  evA lay A op = some (⟨A.n, (d, .e (.r d)) :: A.sl, r1 :: r2 :: A.rs⟩, φ) := by
 unfold evA at he ⊢
 split at he
 ·rename_i c d' ho hd'
  rw [hd] at hd'
  cases hd'
  try simp only [ho, hd]
  split at he
  ·rename_i s x t t' e1 e2 e3
   try simp only [e1, e2, e3]
   split at he
   ·rename_i sz ag E es bytes zz f1 f2 f3 f4
    rw [hle.n] at f3
    try simp only [f1, f2, f3, hf]
    split at he
    ·rename_i i p rE g1 g2
     try simp only [rd_upS hle g1, g2]
     split at he
     ·rename_i E' X Y q k1 k2
      try simp only [hle.rs _ _ k1, srcOf_upS hle k2]
      split at he
      ·rename_i nn kk f m k' g
       split at he
       ·rename_i m1 m2 m3
        try simp only [m1, m2, m3]
        simp only [Option.some.injEq, Prod.mk.injEq, St.mk.injEq, List.cons.injEq] at he
        obtain ⟨⟨_, _, hr1, hr2, _⟩, hφ⟩ := he
        simp only [<-hr1, <-hr2, <-hφ]
       ·cases he
      ·cases he
     ·cases he
    ·rename_i p rE g1 g2
     try simp only [rd_upS hle g1, g2]
     split at he
     ·rename_i Y q k1
      try simp only [srcOf_upS hle k1]
      split at he
      ·rename_i m k' g
       split at he
       ·rename_i m1
        try simp only [m1]
        simp only [Option.some.injEq, Prod.mk.injEq, St.mk.injEq, List.cons.injEq] at he
        obtain ⟨⟨_, _, hr1, hr2, _⟩, hφ⟩ := he
        simp only [<-hr1, <-hr2, <-hφ]
       ·cases he
      ·cases he
     ·cases he
    ·cases he
   ·cases he
  ·cases he
 ·cases he
theorem evS_up (hle : St.sub B A) {op : Oper} {n : Nat} {sl : List (Nat × SV)} {r : Nat × Res} {rs : List (Nat × Res)} {φ : Prop} (he : evS lay B op = some (⟨n, sl, r :: rs⟩, φ)) : evS lay A op = some (⟨A.n, A.sl, r :: A.rs⟩, φ) := by
 have partE_up : ∀ {x : Operand} {r : List EV × Prop}, partE B x = some r -> partE A x = some r := by
  intro x r hr
  unfold partE at hr ⊢
  split at hr
  ·rename_i e; rw [rd_upS hle e]; exact hr
  ·rename_i e; rw [rd_upS hle e]; exact hr
  ·rename_i j p e
   rw [rd_upS hle e]
   dsimp only
   split at hr
   ·rename_i e2; rw [hle.rs _ _ e2]; exact hr
   ·rename_i e2; rw [hle.rs _ _ e2]; exact hr
   ·cases hr
  ·rename_i e; rw [rd_upS hle e]; exact hr
  ·cases hr
 unfold evS at he ⊢
 split at he
 ·rename_i T a x ho hd
  try simp only [ho, hd]
  split at he
  ·rename_i rT i p e1 e2
   try simp only [e1, rd_upS hle e2]
   split at he
   ·rename_i T' cs bk xs p' e3 e4
    try simp only [hle.rs _ _ e3, partE_up e4]
    split at he
    ·rename_i e5 e6
     try simp only [e5, e6]
     simp only [Option.some.injEq, Prod.mk.injEq, St.mk.injEq, List.cons.injEq] at he
     obtain ⟨⟨_, _, hr, _⟩, hφ⟩ := he
     simp only [<-hr, <-hφ]
    ·cases he
   ·cases he
  ·rename_i rT i k e q p e1 e2
   try simp only [e1, rd_upS hle e2]
   split at he
   ·rename_i T' cs bk e3
    try simp only [hle.rs _ _ e3]
    split at he
    ·rename_i xs p' e4
     try simp only [partE_up e4]
     split at he
     ·rename_i e5 e6
      try simp only [e5, e6]
      simp only [Option.some.injEq, Prod.mk.injEq, St.mk.injEq, List.cons.injEq] at he
      obtain ⟨⟨_, _, hr, _⟩, hφ⟩ := he
      simp only [<-hr, <-hφ]
     ·cases he
    ·cases he
   ·rename_i E X e3
    try simp only [hle.rs _ _ e3]
    split at he
    ·rename_i n' k' f xs p' e4
     try simp only [partC_up hle e4]
     split at he
     ·rename_i e5 e6 e7
      try simp only [e5, e6, e7]
      simp only [Option.some.injEq, Prod.mk.injEq, St.mk.injEq, List.cons.injEq] at he
      obtain ⟨⟨_, _, hr, _⟩, hφ⟩ := he
      simp only [<-hr, <-hφ]
     ·cases he
    ·cases he
   ·cases he
  ·cases he
 ·cases he
def stepS (lay : Lay) (B : St) (i0 : Nat) (op : Oper) : Option (List (Nat × SV) × List (Nat × Res) × Prop) :=
 match op.guard, op.dst with
 | none, some d => match evA lay B op with
   | some (⟨_, _, (d1, r1) :: (i1, .gone) :: _⟩, φ) => match Nat.beq d1 d, Nat.beq i1 i0 with
     | true, true => some ([(d, .e (.r d))], [(d, r1), (i0, .gone)], φ)
     | _, _ => none
   | _ => none
 | none, none => match evS lay B op with
   | some (⟨_, _, (i1, r1) :: _⟩, φ) => match Nat.beq i1 i0 with
     | true => some ([], [(i0, r1)], φ)
     | false => none
   | _ => none
 | _, _ => none
theorem qA9 {i0 : Nat} {op : Oper} {ys : List (Nat × SV)} {rn : List (Nat × Res)} {φ : Prop} (hc : stepS lay B i0 op = some (ys, rn, φ)) : op.guard = none /\
  ((∃ d r1, op.dst = some d /\ ys = [(d, .e (.r d))] /\ rn = [(d, r1), (i0, .gone)] /\ ∃ n sl rs, evA lay B op = some (⟨n, sl, (d, r1) :: (i0, .gone) :: rs⟩, φ)) ∨
    (∃ r1, op.dst = none /\ ys = [] /\ rn = [(i0, r1)] /\ ∃ n sl rs, evS lay B op = some (⟨n, sl, (i0, r1) :: rs⟩, φ))) := by
 unfold stepS at hc
 split at hc
 ·rename_i d hg hd
  refine ⟨hg, .inl ?_⟩
  split at hc
  ·rename_i n sl d1 r1 i1 rs φ' he
   split at hc
   ·rename_i h1 h2
    obtain rfl := Nat.eq_of_beq_eq_true h1
    obtain rfl := Nat.eq_of_beq_eq_true h2
    simp only [Option.some.injEq, Prod.mk.injEq] at hc
    obtain ⟨rfl, rfl, rfl⟩ := hc
    exact ⟨d1, r1, hd, rfl, rfl, n, sl, rs, he⟩
   ·cases hc
  ·cases hc
 ·rename_i hg hd
  refine ⟨hg, .inr ?_⟩
  split at hc
  ·rename_i n sl i1 r1 rs φ' he
   split at hc
   ·rename_i h2
    obtain rfl := Nat.eq_of_beq_eq_true h2
    simp only [Option.some.injEq, Prod.mk.injEq] at hc
    obtain ⟨rfl, rfl, rfl⟩ := hc
    exact ⟨r1, hd, rfl, rfl, n, sl, rs, he⟩
   ·cases hc
  ·cases hc
 ·cases hc
theorem stepS_wp (hl : qJ1 P lay) {ops : Array Oper} {i i0 : Nat} {op : Oper} (hi : ops[i]? = some op) {ys : List (Nat × SV)} {rn : List (Nat × Res)} {φ : Prop} (hle : St.sub B A) (hs : Sat o h A tm w)
  (hc : stepS lay B i0 op = some (ys, rn, φ)) (hφ : φ) (hfr : ∀ d y, (d, y) ∈ ys -> qW9 A d = true) {K : Act -> World -> Prop} {QQ : Exit -> Act -> World -> Prop}
  (hn : ∀ o2 h2 tm2 w1, Sat o2 h2 ⟨A.n, ys ++ A.sl, rn ++ A.rs⟩ tm2 w1 -> Ext o w o2 w1 -> K ⟨tm2, []⟩ w1) : wpOp P ops QQ i K ⟨tm, []⟩ w := by
 obtain ⟨hg, ⟨d, r1, hd, rfl, rfl, n, sl, rs, he⟩ | ⟨r1, hd, rfl, rfl, n, sl, rs, he⟩⟩ := qA9 hc
 ·obtain ⟨x, v, w', o', h', hr, hx, hs', hext⟩ := evA_ok hl (evA_up hle hd (hfr d _ (.head _)) he) hφ o h tm w hs
  unfold wpOp
  simp only [hi]
  rw [if_pos (by simp [Region.wanted, hg])]
  left
  unfold Oper.wp
  show op.upon P ⟨tm, []⟩ _ _ ((execOp (evl tm) op).run P w)
  rw [hr]
  have hput : ∀ v, (⟨tm, []⟩ : Act).put op.dst v = ⟨tm.setIfInBounds d v, []⟩ := fun v => by simp [Act.put, hd]
  rw [hput] at hs'
  rcases hx with rfl | ⟨rfl, rfl⟩
  ·show K ((⟨tm, []⟩ : Act).put op.dst v) w'
   rw [hput]
   exact hn o' h' _ w' hs' hext
  ·show K ((⟨tm, []⟩ : Act).put op.dst undef) w'
   rw [hput]
   exact hn o' h' _ w' hs' hext
 ·obtain ⟨x, v, w', o', h', hr, hx, hs', hext⟩ := evS_ok hl (evS_up hle he) hφ o h tm w hs
  unfold wpOp
  simp only [hi]
  rw [if_pos (by simp [Region.wanted, hg])]
  left
  unfold Oper.wp
  show op.upon P ⟨tm, []⟩ _ _ ((execOp (evl tm) op).run P w)
  rw [hr]
  have hput : ∀ v, (⟨tm, []⟩ : Act).put op.dst v = ⟨tm, []⟩ := fun v => by simp [Act.put, hd]
  rw [hput] at hs'
  rcases hx with rfl | ⟨rfl, rfl⟩
  ·show K ((⟨tm, []⟩ : Act).put op.dst v) w'
   rw [hput]
   exact hn o' h' _ w' hs' hext
  ·show K ((⟨tm, []⟩ : Act).put op.dst undef) w'
   rw [hput]
   exact hn o' h' _ w' hs' hext
def isBS : Op -> Bool
 | .buildSlice _ _ _ => true
 | _ => false
def stepZ (lay : Lay) (fns : Fns) (B : St) (ops : Array Oper) (op : Oper) (i0 : Nat) : Option (SV × List (Nat × Res) × Prop) :=
 match isBS op.op && !(match op.dst with | some d => Nat.beq d i0 | none => false) with
 | false => stepX lay fns B ops op
 | true => match op.guard, op.dst, evE lay B op with
   | none, some d, some (⟨_, _, (k, .own _ x) :: _⟩, φ) => match isSl x, Nat.beq k d with
     | true, true => some (.e (.c x), [(d, .gone)], φ)
     | _, _ => none
   | _, _, _ => none
theorem stepZ_shape {B : St} {ops : Array Oper} {op : Oper} {i0 : Nat} {y : SV} {rn : List (Nat × Res)} {φ : Prop} {d : Nat} (hd : op.dst = some d) (hc : stepZ lay fns B ops op i0 = some (y, rn, φ)) : rn = [] ∨ ∃ r, rn = [(d, r)] := by
 unfold stepZ at hc
 split at hc
 ·unfold stepX at hc
  split at hc
  ·simp only [Option.some.injEq, Prod.mk.injEq] at hc
   exact .inl hc.2.1.symm
  ·split at hc
   ·rename_i d2 n2 sl2 k2 r2 l2 φ2 _ _ hd2 _
    simp only [Option.some.injEq, Prod.mk.injEq] at hc
    rw [hd] at hd2
    cases hd2
    exact .inr ⟨_, hc.2.1.symm⟩
   ·cases hc
 ·split at hc
  ·rename_i d2 _ _ _ _ _ _ _ _ hd2 _
   rw [hd] at hd2
   cases hd2
   split at hc
   ·simp only [Option.some.injEq, Prod.mk.injEq] at hc
    exact .inr ⟨_, hc.2.1.symm⟩
   ·cases hc
  ·cases hc
theorem stepZ_wp (hl : qJ1 P lay) (hT : FnsOk P fns) {ops : Array Oper} {i : Nat} {op : Oper} (hi : ops[i]? = some op) {i0 : Nat} {y : SV} {rn : List (Nat × Res)} {φ : Prop} {d : Nat} (hle : St.sub B A) (hs : Sat o h A tm w) (hd : op.dst = some d) (hlt : Nat.blt d A.n = true)
  (hc : stepZ lay fns B ops op i0 = some (y, rn, φ)) (hφ : φ) (hfr : rn ≠ [] -> qW9 A d = true) {K : Act -> World -> Prop} {QQ : Exit -> Act -> World -> Prop}
  (hn : ∀ o2 h2 v w1, Sat o2 h2 ⟨A.n, (d, y) :: A.sl, rn ++ A.rs⟩ (tm.setIfInBounds d v) w1 -> Ext o w o2 w1 -> K ⟨tm.setIfInBounds d v, []⟩ w1) : wpOp P ops QQ i K ⟨tm, []⟩ w := by
 unfold stepZ at hc
 split at hc
 ·exact stepX_wp hl hT hi hle hs hd hlt hc hφ hfr hn
 ·rename_i hbs0
  have hbs : isBS op.op = true := by
   rw [Bool.and_eq_true] at hbs0
   exact hbs0.1
  clear hbs0
  split at hc
  ·rename_i d' n2 sl2 k2 E2 x rs2 φ2 hg hd2 hE
   rw [hd] at hd2
   cases hd2
   split at hc
   ·rename_i hsl hkd
    simp only [Option.some.injEq, Prod.mk.injEq] at hc
    obtain ⟨rfl, rfl, rfl⟩ := hc
    obtain rfl := Nat.eq_of_beq_eq_true hkd
    obtain ⟨n3, k3, f3, rfl⟩ := isSl_ok hsl
    have hnew : isNew op.op = true := by cases hop : op.op <;> rw [hop] at hbs <;> simp [isBS] at hbs <;> rfl
    have hA := evE_up hle hd hnew (hfr (by simp)) hE
    obtain ⟨x, v, w', o', h', hr, hx, hs', hext⟩ := evE_ok hl hA hφ o h tm w hs
    have hput : ∀ v, (⟨tm, []⟩ : Act).put op.dst v = ⟨tm.setIfInBounds k2 v, []⟩ := fun v => by simp [Act.put, hd]
    rw [hput] at hs'
    obtain ⟨g1, g2⟩ := hs'.frz (i := k2) (E := E2) (n := n3) (k := k3) (f := f3) (by rw [qQ3, if_pos rfl]) (ss := [k2]) (by simp [allR, qQ3])
    have hs2 : Sat (frzO o' k2) h' ⟨A.n, (k2, .e (.c (.sl n3 k3 f3))) :: A.sl, [(k2, .gone)] ++ A.rs⟩ (tm.setIfInBounds k2 v) w' := by
     refine ⟨g1.size, g1.tags, fun s z hl => g1.slot s z ?_, fun j r hl => g1.res j r ?_⟩
     ·simp only [pushC] at hl ⊢
      rw [qQ3] at hl ⊢
      split at hl
      ·rename_i e; rw [if_pos e]; exact hl
      ·rename_i e; rw [if_neg e, qQ3, if_neg e]; exact hl
     ·simp only [List.cons_append, List.nil_append] at hl ⊢
      rw [qQ3] at hl ⊢
      split at hl
      ·rename_i e; rw [if_pos e]; exact hl
      ·rename_i e; rw [if_neg e, qQ3, if_neg e]; exact hl
    unfold wpOp
    simp only [hi]
    rw [if_pos (by simp [Region.wanted, hg])]
    left
    unfold Oper.wp
    show op.upon P ⟨tm, []⟩ _ _ ((execOp (evl tm) op).run P w)
    rw [hr]
    rcases hx with rfl | ⟨rfl, rfl⟩
    ·show K ((⟨tm, []⟩ : Act).put op.dst v) w'
     rw [hput]
     exact hn _ h' v w' hs2 (hext.trans g2)
    ·show K ((⟨tm, []⟩ : Act).put op.dst undef) w'
     rw [hput]
     exact hn _ h' undef w' hs2 (hext.trans g2)
   ·cases hc
  ·cases hc
def qB3 {α : Type} (ls : Nat -> Bool) : Nat -> List (List (Nat × α)) -> List (Nat × α)
 | _, [] => []
 | k, p :: l => (if ls k then p else []) ++ qB3 ls (k + 1) l
theorem qX6 {α : Type} {l base : List (Nat × α)} {i : Nat} (h : ∀ r, (i, r) ∉ l) : lk (l ++ base) i = lk base i := by
 induction l with
 | nil => rfl
 | cons p l ih =>
   obtain ⟨k, r⟩ := p
   rw [List.cons_append, qQ3, if_neg (fun e => h r (by rw [<-e]; exact .head _)), ih fun r' hr => h r' (.tail _ hr)]
theorem qD2 {α : Type} {l base : List (Nat × α)} {t : Nat} {r : α} (h : lk l t = some r) : lk (l ++ base) t = some r := by
 induction l with
 | nil => simp [lk] at h
 | cons q l ih =>
   rw [List.cons_append, qQ3]
   rw [qQ3] at h
   split
   ·rename_i e; rw [if_pos e] at h; exact h
   ·rename_i e; rw [if_neg e] at h; exact ih h
theorem lkA_of {α : Type} {l : List (Nat × α)} {t : Nat} {r : α} (h : (t, r) ∈ l) : ∃ r', lk l t = some r' := by
 induction l with
 | nil => cases h
 | cons q l ih =>
   rw [qQ3]
   split
   ·exact ⟨_, rfl⟩
   ·rename_i hne
    rcases List.mem_cons.1 h with e | e
    ·rw [<-e] at hne; exact absurd rfl hne
    ·exact ih e
theorem qA2 {α : Type} {ls : Nat -> Bool} {t : Nat} {r : α} : ∀ {ps : List (List (Nat × α))} {k : Nat}, (t, r) ∈ qB3 ls k ps -> ∃ (j : Nat) (p : List (Nat × α)), ps[j]? = some p /\ ls (k + j) = true /\ (t, r) ∈ p
 | [], k, h => by simp [qB3] at h
 | p :: l, k, h => by
   simp only [qB3, List.mem_append] at h
   rcases h with h | h
   ·split at h
    ·rename_i hk; exact ⟨0, p, rfl, hk, h⟩
    ·cases h
   ·obtain ⟨j, p', h1, h2, h3⟩ := qA2 h
    exact ⟨j + 1, p', by simpa using h1, by rw [show k + (j + 1) = k + 1 + j by omega]; exact h2, h3⟩
theorem pickL_in {α : Type} {ls : Nat -> Bool} {base : List (Nat × α)} {t : Nat} {r : α} : ∀ {ps : List (List (Nat × α))} {k i : Nat} {p : List (Nat × α)}, ps[i]? = some p -> ls (k + i) = true -> lk p t = some r ->
  (∀ (j : Nat) (p' : List (Nat × α)), j ≠ i -> ps[j]? = some p' -> ∀ r', (t, r') ∉ p') -> lk (qB3 ls k ps ++ base) t = some r
 | [], k, i, p, h, _, _, _ => by simp at h
 | q :: l, k, 0, p, h, hl, hr, hu => by
   simp at h
   subst h
   simp only [Nat.add_zero] at hl
   simp only [qB3, hl, if_true, List.append_assoc]
   exact qD2 hr
 | q :: l, k, i + 1, p, h, hl, hr, hu => by
   have ih := pickL_in (base := base) (ps := l) (k := k + 1) (i := i) (by simpa using h) (by rw [show k + 1 + i = k + (i + 1) by omega]; exact hl) hr fun j p' hj hp => hu (j + 1) p' (by omega) (by simpa using hp)
   simp only [qB3, List.append_assoc]
   rw [qX6 fun r' hm => ?_]
   ·exact ih
   ·split at hm
    ·exact hu 0 q (by omega) rfl r' hm
    ·cases hm
theorem pickL_out {α : Type} {ls : Nat -> Bool} {base : List (Nat × α)} {ps : List (List (Nat × α))} {t : Nat} (hu : ∀ (j : Nat) (p : List (Nat × α)), ps[j]? = some p -> ls j = true -> ∀ r, (t, r) ∉ p) : lk (qB3 ls 0 ps ++ base) t = lk base t :=
 qX6 fun r hm => by
  obtain ⟨j, p, h1, h2, h3⟩ := qA2 hm
  exact hu j p h1 (by simpa using h2) r h3
theorem pickL_none {α : Type} {ls : Nat -> Bool} (h : ∀ j, ls j = false) : ∀ {ps : List (List (Nat × α))} {k : Nat}, qB3 ls k ps = []
 | [], _ => rfl
 | p :: l, k => by simp [qB3, h k, pickL_none h]
def ApartL {α : Type} (ps : List (List (Nat × α))) : Prop := ∀ (i j : Nat) (p p' : List (Nat × α)), i ≠ j -> ps[i]? = some p -> ps[j]? = some p' -> ∀ t r r', (t, r) ∈ p -> (t, r') ∉ p'
theorem qE0 {α : Type} {ls ls' : Nat -> Bool} {base : List (Nat × α)} {p : List (Nat × α)} {ps : List (List (Nat × α))} {i : Nat} (hk : ApartL ps) (h : ps[i]? = some p) (hi : ls' i = true) (hl : ∀ j, j ≠ i -> ls' j = ls j) {t : Nat} {r : α} (hr : lk (qB3 ls' 0 ps ++ base) t = some r) :
  lk (p ++ (qB3 ls 0 ps ++ base)) t = some r := by
 by_cases hm : ∃ r0, (t, r0) ∈ p
 ·obtain ⟨r0, hm⟩ := hm
  obtain ⟨r1, h1⟩ := lkA_of hm
  have := pickL_in (base := base) (k := 0) h (by simpa using hi) h1 fun j p' hj hp r' => hk i j p p' (Ne.symm hj) h hp t r0 r' hm
  rw [this] at hr
  cases hr
  exact qD2 h1
 ·rw [qX6 fun r0 hm' => hm ⟨r0, hm'⟩]
  by_cases hx : ∃ (j : Nat) (q : List (Nat × α)), ps[j]? = some q /\ ls' j = true /\ ∃ r0, (t, r0) ∈ q
  ·obtain ⟨j, q, hj, hlj, r0, hq⟩ := hx
   have hji : j ≠ i := by rintro rfl; rw [h] at hj; cases hj; exact hm ⟨r0, hq⟩
   obtain ⟨r1, h1⟩ := lkA_of hq
   have e1 := pickL_in (base := base) (k := 0) hj (by simpa using hlj) h1 fun j' p' hj' hp r' => hk j j' q p' (Ne.symm hj') hj hp t r0 r' hq
   rw [e1] at hr
   cases hr
   exact pickL_in (k := 0) hj (by simpa using (hl j hji) ▸ hlj) h1 fun j' p' hj' hp r' => hk j j' q p' (Ne.symm hj') hj hp t r0 r' hq
  ·rw [pickL_out fun j q hj hlj r0 hq => hx ⟨j, q, hj, hlj, r0, hq⟩] at hr
   rw [pickL_out fun j q hj hlj r0 hq => hx ⟨j, q, hj, by
    by_cases hji : j = i
    ·subst hji; exact hi
    ·rw [hl j hji]; exact hlj, r0, hq⟩]
   exact hr
theorem lkM {α : Type} : ∀ {l : List (Nat × α)} {i : Nat} {r : α}, lk l i = some r -> (i, r) ∈ l
 | [], _, _, h => by simp [lk] at h
 | (j, x) :: l, i, r, h => by
   rw [qQ3] at h
   split at h
   ·rename_i e; subst e; cases h; exact .head _
   ·exact .tail _ (lkM h)
abbrev Ent := List (Nat × SV) × List (Nat × Res)
def pickR (rn : List (Nat × Res)) (ts : List Nat) : List (Nat × Res) := rn.filter fun p => memN p.1 ts
def qA8 (i0 : Nat) (rs : List (Nat × Res)) : List (Nat × Res) := rs.filter fun p => !Nat.beq p.1 i0
theorem without_lk {i0 : Nat} : ∀ {rs : List (Nat × Res)} {i : Nat} {r : Res}, lk (qA8 i0 rs) i = some r -> lk rs i = some r /\ i ≠ i0
 | [], i, r, h => by simp [qA8, lk] at h
 | p :: rs, i, r, h => by
   unfold qA8 at h
   rw [List.filter_cons] at h
   split at h
   ·rename_i hp
    rw [qQ3] at h ⊢
    split at h
    ·rename_i e
     rw [if_pos e]
     refine ⟨h, fun e2 => ?_⟩
     rw [e, e2] at hp; simp at hp
    ·rename_i e
     rw [if_neg e]
     exact without_lk h
   ·rename_i hp
    obtain ⟨h1, h2⟩ := without_lk h
    refine ⟨?_, h2⟩
    rw [qQ3, if_neg]
    ·exact h1
    ·intro e
     have : p.1 = i0 := by
      simp only [Bool.not_eq_true', Bool.not_eq_false] at hp
      exact Nat.eq_of_beq_eq_true (by simpa using hp)
     exact h2 (e ▸ this)
def waitsFor (ops : Array Oper) : Nat -> Nat -> Nat -> Bool
 | 0, _, _ => false
 | f + 1, s, i => match ops[s]? with
   | some op => anyE op.after.toList i || op.after.toList.any fun e => Region.binds .any e && waitsFor ops f e.on i
   | none => false
def qJ8 (ops : Array Oper) (s i : Nat) : Bool := waitsFor ops 2 s i
theorem qW3 {ops : Array Oper} {ls : Nat -> Bool} (hcl : ∀ (i : Nat) oi, ops[i]? = some oi -> ls i = true -> ∀ e ∈ oi.after, Region.binds .any e = true -> ls e.on = true) : ∀ {f s i : Nat}, waitsFor ops f s i = true -> ls s = true -> ls i = true
 | 0, _, _, h, _ => by cases h
 | f + 1, s, i, h, hs => by
   unfold waitsFor at h
   split at h
   ·rename_i op ho
    rw [Bool.or_eq_true] at h
    rcases h with h | h
    ·obtain ⟨e, he, h1, h2⟩ := anyE_ok h
     rw [<-h2]; exact hcl s op ho hs e (by simpa using he) h1
    ·rw [List.any_eq_true] at h
     obtain ⟨e, he, h1⟩ := h
     rw [Bool.and_eq_true] at h1
     exact qW3 hcl h1.2 (hcl s op ho hs e (by simpa using he) h1.1)
   ·cases h
def drawV (lay : Lay) (fns : Fns) (ops : Array Oper) (rs0 rs1 : List (Nat × Res)) (n s i0 : Nat) : List Oper -> Nat -> List (Nat × SV) -> List (Nat × Res) -> Prop -> Option (List Ent × List (Nat × Res) × Prop)
 | [], _, _, _, φ => some ([], [], φ)
 | op :: l, i, sl, acc, φ => match Nat.beq i s with
   | true => match stepS lay ⟨n, qK8 sl (qW8 ops op), pickR acc (qW8 ops op) ++ rs0⟩ i0 op with
     | some (ys, rn, ψ) => match drawV lay fns ops rs0 rs1 n s i0 l (i + 1) (ys ++ sl) acc (φ /\ ψ) with
       | some (ps, _, χ) => some ((ys, []) :: ps, rn, χ)
       | none => none
     | none => none
   | false => match op.dst with
     | some d => match Nat.blt d n, stepZ lay fns ⟨n, qK8 sl (qW8 ops op), bif qJ8 ops s i then rs0 else rs1⟩ ops op i0 with
       | true, some (y, rn, ψ) => match drawV lay fns ops rs0 rs1 n s i0 l (i + 1) ((d, y) :: sl) (acc ++ rn) (φ /\ ψ) with
         | some (ps, sp, χ) => some (([(d, y)], rn) :: ps, sp, χ)
         | none => none
       | _, _ => none
     | none => none
def qV1 (ps : List Ent) : List (Nat × SV) := (ps.map (·.1)).reverse.flatten
def memE (ps : List Ent) : List (Nat × Res) := (ps.map (·.2)).flatten
theorem qV6 (p : Ent) (ps : List Ent) (sl : List (Nat × SV)) : qV1 (p :: ps) ++ sl = qV1 ps ++ (p.1 ++ sl) := by simp [qV1]
theorem memE_cons (p : Ent) (ps : List Ent) (acc : List (Nat × Res)) : acc ++ memE (p :: ps) = (acc ++ p.2) ++ memE ps := by simp [memE]
theorem drawV_spec {ops : Array Oper} {rs0 rs1 : List (Nat × Res)} {n s i0 : Nat} : ∀ {l : List Oper} {k : Nat} {sl : List (Nat × SV)} {acc : List (Nat × Res)} {prs : List Ent} {sp : List (Nat × Res)} {φ φ' : Prop}, drawV lay fns ops rs0 rs1 n s i0 l k sl acc φ = some (prs, sp, φ') -> φ' -> φ /\ prs.length = l.length /\
  ∀ (i : Nat) op, l[i]? = some op -> if k + i = s then ∃ ys ψ, prs[i]? = some (ys, []) /\ stepS lay ⟨n, qK8 (qV1 (prs.take i) ++ sl) (qW8 ops op), pickR (acc ++ memE (prs.take i)) (qW8 ops op) ++ rs0⟩ i0 op = some (ys, sp, ψ) /\ ψ
    else ∃ d y rn ψ, prs[i]? = some ([(d, y)], rn) /\ op.dst = some d /\ Nat.blt d n = true /\ stepZ lay fns ⟨n, qK8 (qV1 (prs.take i) ++ sl) (qW8 ops op), bif qJ8 ops s (k + i) then rs0 else rs1⟩ ops op i0 = some (y, rn, ψ) /\ ψ
 | [], k, sl, acc, prs, sp, φ, φ', h, hφ => by
   simp only [drawV, Option.some.injEq, Prod.mk.injEq] at h
   obtain ⟨rfl, rfl, rfl⟩ := h
   exact ⟨hφ, rfl, by simp⟩
 | op :: l, k, sl, acc, prs, sp, φ, φ', h, hφ => by
   simp only [drawV] at h
   split at h
   ·rename_i hks
    have hks := Nat.eq_of_beq_eq_true hks
    split at h
    ·rename_i ys rn ψ hs
     split at h
     ·rename_i ps sp' χ hrec
      simp only [Option.some.injEq, Prod.mk.injEq] at h
      obtain ⟨rfl, rfl, rfl⟩ := h
      obtain ⟨h1, h2, h4⟩ := drawV_spec hrec hφ
      refine ⟨h1.1, by simp [h2], fun i op' hi => ?_⟩
      cases i with
      | zero =>
        simp at hi; subst hi
        rw [if_pos (by omega)]
        exact ⟨ys, ψ, rfl, by simpa [qV1, memE] using hs, h1.2⟩
      | succ i =>
        simp at hi
        have := h4 i op' hi
        rw [show k + (i + 1) = k + 1 + i by omega]
        rw [if_neg (by omega)] at this ⊢
        obtain ⟨d', y', rn', ψ', g1, g2, g3, g4, g5⟩ := this
        refine ⟨d', y', rn', ψ', by simpa using g1, g2, g3, ?_, g5⟩
        rw [List.take_succ_cons, qV6]; exact g4
     ·cases h
    ·cases h
   ·rename_i hks
    have hks : k ≠ s := fun e => by rw [e] at hks; simp at hks
    split at h
    ·rename_i d hd
     split at h
     ·rename_i y rn ψ hlt hs
      split at h
      ·rename_i ps sp' χ hrec
       simp only [Option.some.injEq, Prod.mk.injEq] at h
       obtain ⟨rfl, rfl, rfl⟩ := h
       obtain ⟨h1, h2, h4⟩ := drawV_spec hrec hφ
       refine ⟨h1.1, by simp [h2], fun i op' hi => ?_⟩
       cases i with
       | zero =>
         simp at hi; subst hi
         rw [if_neg (by omega)]
         exact ⟨d, y, rn, ψ, by simp, hd, hlt, by simpa [qV1] using hs, h1.2⟩
       | succ i =>
         simp at hi
         have := h4 i op' hi
         rw [show k + (i + 1) = k + 1 + i by omega]
         split
         ·rename_i e
          rw [if_pos e] at this
          obtain ⟨ys', ψ', g1, g2, g3⟩ := this
          refine ⟨ys', ψ', by simpa using g1, ?_, g3⟩
          rw [List.take_succ_cons, qV6, memE_cons]; exact g2
         ·rename_i e
          rw [if_neg e] at this
          obtain ⟨d', y', rn', ψ', g1, g2, g3, g4, g5⟩ := this
          refine ⟨d', y', rn', ψ', by simpa using g1, g2, g3, ?_, g5⟩
          rw [List.take_succ_cons, qV6]; exact g4
      ·cases h
     ·cases h
    ·cases h
def menL (d : Nat) : List (Nat × SV) -> Bool
 | [] => false
 | p :: l => p.2.men d || menL d l
theorem menL_ok {d : Nat} : ∀ {l : List (Nat × SV)}, menL d l = false -> ∀ t x, (t, x) ∈ l -> x.men d = false
 | [], _, t, x, h => by cases h
 | p :: l, hf, t, x, h => by
   simp only [menL, Bool.or_eq_false_iff] at hf
   rcases List.mem_cons.1 h with e | e
   ·rw [<-e] at hf; exact hf.1
   ·exact menL_ok hf.2 t x e
def freshE (ops : Array Oper) (d j : Nat) : Nat -> List Ent -> Bool
 | _, [] => true
 | k, p :: l => (Nat.beq k j || (qJ8 ops k j || (!menL d p.1 && qK7 d p.2))) && freshE ops d j (k + 1) l
theorem qB8 {ops : Array Oper} {d j : Nat} : ∀ {l : List Ent} {k : Nat}, freshE ops d j k l = true -> ∀ (i : Nat) (p : Ent), l[i]? = some p -> k + i ≠ j -> qJ8 ops (k + i) j = false -> menL d p.1 = false /\ qK7 d p.2 = true
 | [], _, _, i, p, h, _, _ => by simp at h
 | q :: l, k, hf, i, p, h, hne, hnb => by
   simp only [freshE, Bool.and_eq_true, Bool.or_eq_true, Bool.not_eq_true'] at hf
   cases i with
   | zero =>
     simp at h
     subst h
     rcases hf.1 with h1 | h1 | h1
     ·exact absurd (Nat.eq_of_beq_eq_true h1) (by simpa using hne)
     ·rw [Nat.add_zero, h1] at hnb; cases hnb
     ·exact h1
   | succ i => exact qB8 hf.2 i p (by simpa using h) (by omega) (by rw [show k + 1 + i = k + (i + 1) by omega]; exact hnb)
def freshV1 (ops : Array Oper) (prs : List Ent) (sp : List (Nat × Res)) (A : St) (s i0 : Nat) : Nat -> List Ent -> Bool
 | _, [] => true
 | j, (ys, rn) :: l => (match ys with
   | [] => true
   | (d, _) :: _ => match Nat.beq j s, rn with
     | true, _ => freshE ops d j 0 prs && (freshS d A.sl && qK7 d A.rs)
     | false, [] => true
     | false, _ => freshE ops d j 0 prs && (freshS d A.sl && qK7 d A.rs) && (Nat.beq d i0 || qK7 d sp)) && freshV1 ops prs sp A s i0 (j + 1) l
theorem freshV1_ok {ops : Array Oper} {prs : List Ent} {sp : List (Nat × Res)} {A : St} {s i0 : Nat} : ∀ {l : List Ent} {k : Nat}, freshV1 ops prs sp A s i0 k l = true -> ∀ (i d : Nat) (y : SV) (ys : List (Nat × SV)) (rn : List (Nat × Res)), l[i]? = some ((d, y) :: ys, rn) -> k + i = s ∨ rn ≠ [] -> freshE ops d (k + i) 0 prs = true /\ (freshS d A.sl = true /\ qK7 d A.rs = true) /\ (k + i ≠ s -> d = i0 ∨ qK7 d sp = true)
 | [], _, _, i, d, y, ys, rn, h, _ => by simp at h
 | (qs, qn) :: l, k, hf, i, d, y, ys, rn, h, hne => by
   simp only [freshV1, Bool.and_eq_true] at hf
   cases i with
   | zero =>
     simp at h
     obtain ⟨rfl, rfl⟩ := h
     have h1 := hf.1
     simp only [Nat.add_zero] at hne ⊢
     dsimp only at h1
     split at h1
     ·rename_i hb
      simp only [Bool.and_eq_true] at h1
      exact ⟨h1.1, h1.2, fun e => absurd (Nat.eq_of_beq_eq_true hb) e⟩
     ·rename_i hb
      rcases hne with e | e
      ·rw [e] at hb; simp at hb
      ·exact absurd rfl e
     ·simp only [Bool.and_eq_true, Bool.or_eq_true] at h1
      exact ⟨h1.1.1, h1.1.2, fun _ => h1.2.imp Nat.eq_of_beq_eq_true id⟩
   | succ i =>
     have := freshV1_ok hf.2 i d y ys rn (by simpa using h) (by rcases hne with e | e; exact .inl (by omega); exact .inr e)
     rwa [show k + 1 + i = k + (i + 1) by omega] at this
theorem memN_no {t : Nat} : ∀ {l : List Nat}, t ∉ l -> memN t l = false
 | [], _ => rfl
 | a :: l, h => by
   simp only [memN, Bool.or_eq_false_iff]
   refine ⟨?_, memN_no fun h' => h (.tail _ h')⟩
   cases hb : Nat.beq a t with
   | false => rfl
   | true => exact absurd (by rw [Nat.eq_of_beq_eq_true hb]; exact .head _) h
theorem memN_yes {t : Nat} {l : List Nat} (h : memN t l = true) : t ∈ l := Classical.byContradiction fun hno => by rw [memN_no hno] at h; cases h
theorem drawV_sp {ops : Array Oper} {rs0 rs1 : List (Nat × Res)} {n s i0 : Nat} : ∀ {l : List Oper} {k : Nat} {sl : List (Nat × SV)} {acc : List (Nat × Res)} {prs : List Ent} {sp : List (Nat × Res)} {φ φ' : Prop}, drawV lay fns ops rs0 rs1 n s i0 l k sl acc φ = some (prs, sp, φ') -> k + l.length ≤ s -> sp = []
 | [], k, sl, acc, prs, sp, φ, φ', h, _ => by
   simp only [drawV, Option.some.injEq, Prod.mk.injEq] at h
   exact h.2.1.symm
 | op :: l, k, sl, acc, prs, sp, φ, φ', h, hs => by
   simp only [List.length_cons] at hs
   simp only [drawV] at h
   split at h
   ·rename_i hks
    have hks := Nat.eq_of_beq_eq_true hks
    omega
   ·split at h
    ·split at h
     ·split at h
      ·rename_i ps sp' χ hrec
       simp only [Option.some.injEq, Prod.mk.injEq] at h
       obtain ⟨_, rfl, _⟩ := h
       exact drawV_sp hrec (by omega)
      ·cases h
     ·cases h
    ·cases h
def layBefore (ops : Array Oper) (s i0 n : Nat) : Bool := (List.range n).all fun j => match ops[j]? with
 | some op => match op.dst with
   | some d => !Nat.beq d i0 || (Nat.beq j s || qJ8 ops s j)
   | none => true
 | none => true
theorem layBefore_ok {ops : Array Oper} {s i0 n j : Nat} {op : Oper} (h : layBefore ops s i0 n = true) (hj : j < n) (ho : ops[j]? = some op) (hd : op.dst = some i0) (hne : j ≠ s) : qJ8 ops s j = true := by
 unfold layBefore at h
 rw [List.all_eq_true] at h
 have := h j (List.mem_range.2 hj)
 rw [ho] at this
 simp only [hd, Nat.beq_refl, Bool.not_true, Bool.false_or, Bool.or_eq_true] at this
 rcases this with h1 | h1
 ·exact absurd (Nat.eq_of_beq_eq_true h1) hne
 ·exact h1
theorem lkU {α : Type} {L base : List (Nat × α)} {t : Nat} {y : α} (h : (t, y) ∈ L) (hu : ∀ y', (t, y') ∈ L -> y' = y) : lk (L ++ base) t = some y := by
 obtain ⟨r, hr⟩ := lkA_of h
 have := hu r (lkM hr)
 subst this
 exact qD2 hr
theorem qW4 {ps : List Ent} {t : Nat} {y : SV} : (t, y) ∈ qV1 ps ↔ ∃ (j : Nat) (p : Ent), ps[j]? = some p /\ (t, y) ∈ p.1 := by
 unfold qV1
 rw [List.mem_flatten]
 constructor
 ·rintro ⟨l, hl, hm⟩
  rw [List.mem_reverse, List.mem_map] at hl
  obtain ⟨p, hp, rfl⟩ := hl
  obtain ⟨j, hj⟩ := List.mem_iff_getElem?.1 hp
  exact ⟨j, p, hj, hm⟩
 ·rintro ⟨j, p, hj, hm⟩
  exact ⟨p.1, by rw [List.mem_reverse]; exact List.mem_map_of_mem (List.mem_of_getElem? hj), hm⟩
theorem memE_mem {ps : List Ent} {t : Nat} {y : Res} : (t, y) ∈ memE ps ↔ ∃ (j : Nat) (p : Ent), ps[j]? = some p /\ (t, y) ∈ p.2 := by
 unfold memE
 rw [List.mem_flatten]
 constructor
 ·rintro ⟨l, hl, hm⟩
  rw [List.mem_map] at hl
  obtain ⟨p, hp, rfl⟩ := hl
  obtain ⟨j, hj⟩ := List.mem_iff_getElem?.1 hp
  exact ⟨j, p, hj, hm⟩
 ·rintro ⟨j, p, hj, hm⟩
  exact ⟨p.2, List.mem_map_of_mem (List.mem_of_getElem? hj), hm⟩
theorem pickL_all {α : Type} {ls : Nat -> Bool} : ∀ {ps : List (List (Nat × α))} {k : Nat}, (∀ j, j < ps.length -> ls (k + j) = true) -> qB3 ls k ps = ps.flatten
 | [], _, _ => rfl
 | p :: l, k, h => by
   have h0 := h 0 (by simp)
   simp only [Nat.add_zero] at h0
   simp only [qB3, h0, if_true, List.flatten_cons]
   rw [pickL_all (ls := ls) (ps := l) (k := k + 1) fun j hj => by
    have := h (j + 1) (by simp; omega)
    rwa [show k + (j + 1) = k + 1 + j by omega] at this]
theorem qY7 {α β : Type} {f : α -> β} {l : List α} {i : Nat} {q : β} (h : (l.map f)[i]? = some q) : ∃ p, l[i]? = some p /\ q = f p := by
 rw [List.getElem?_map] at h
 obtain ⟨p, h1, h2⟩ := Option.map_eq_some_iff.1 h
 exact ⟨p, h1, h2.symm⟩
theorem stepS_keys {i0 : Nat} {op : Oper} {ys : List (Nat × SV)} {rn : List (Nat × Res)} {φ : Prop} (hc : stepS lay B i0 op = some (ys, rn, φ)) : ∀ t r, (t, r) ∈ rn -> t = i0 ∨ ∃ y, (t, y) ∈ ys := by
 intro t r hm
 obtain ⟨_, ⟨d, r1, hd, rfl, rfl, _⟩ | ⟨r1, hd, rfl, rfl, _⟩⟩ := qA9 hc
 ·simp only [List.mem_cons, Prod.mk.injEq, List.not_mem_nil, or_false] at hm
  rcases hm with ⟨rfl, _⟩ | ⟨rfl, _⟩
  ·exact .inr ⟨_, .head _⟩
  ·exact .inl rfl
 ·simp only [List.mem_cons, Prod.mk.injEq, List.not_mem_nil, or_false] at hm
  exact .inl hm.1
theorem KW.drawnV (hl : qJ1 P lay) (hT : FnsOk P fns) (hm : P.follows .mixedOrders = true) {id : Nat} {ops : Array Oper} {k : List K} {φ : Prop} {n : Nat} (s i0 : Nat) (hsz0 : Nat.blt n ops.size = true) (hdep : depOk ops = true) (htl : tailsOk ops n = true) (hat : (match lk A.rs i0 with | some _ => true | none => layBefore ops s i0 n) = true)
  {prs : List Ent} {sp : List (Nat × Res)} (hg : drawV lay fns ops A.rs (qA8 i0 A.rs) A.n s i0 (takeN n ops.toList) 0 A.sl [] True = some (prs, sp, φ)) (hfr : freshV1 ops prs sp A s i0 0 prs = true) (hφ : φ)
  (hn : KW P (.ops ops (dropN n ops.toList) :: k) .normal ⟨A.n, qV1 prs ++ A.sl, sp ++ (memE prs ++ A.rs)⟩ Q) : KW P (.code (.region id ops true) :: k) .normal A Q := by
 rw [takeN_eq] at hg
 rw [dropN_eq] at hn
 have hsize : n < ops.size := by simpa [Nat.blt, Nat.succ_le_iff] using hsz0
 obtain ⟨_, hlen, hprs⟩ := drawV_spec hg hφ
 have dep := depOk_ok hdep
 have hlen' : prs.length = n := by simp only [List.length_take, Array.length_toList] at hlen; omega
 have hsp0 : n ≤ s -> sp = [] := fun h => drawV_sp hg (by simp only [List.length_take, Array.length_toList]; omega)
 have hstep := tailsOk_ok htl
 have hop : ∀ (i : Nat) op, i < n -> ops[i]? = some op -> if i = s then ∃ ys ψ, prs[i]? = some (ys, []) /\ stepS lay ⟨A.n, qK8 (qV1 (prs.take i) ++ A.sl) (qW8 ops op), pickR (memE (prs.take i)) (qW8 ops op) ++ A.rs⟩ i0 op = some (ys, sp, ψ) /\ ψ
   else ∃ d y rn ψ, prs[i]? = some ([(d, y)], rn) /\ op.dst = some d /\ Nat.blt d A.n = true /\ stepZ lay fns ⟨A.n, qK8 (qV1 (prs.take i) ++ A.sl) (qW8 ops op), bif qJ8 ops s i then A.rs else qA8 i0 A.rs⟩ ops op i0 = some (y, rn, ψ) /\ ψ :=
  fun i op hin hi => by
   have := hprs i op (by rw [List.getElem?_take, if_pos hin]; simpa using hi)
   simpa only [Nat.zero_add, List.nil_append] using this
 -- what each lays
 have hent : ∀ (j : Nat) (p : Ent), prs[j]? = some p -> ∃ op, ops[j]? = some op /\ j < n /\ (∀ t x, (t, x) ∈ p.1 -> op.dst = some t /\ p.1 = [(t, x)]) /\ ∀ t r, (t, r) ∈ p.2 -> op.dst = some t /\ j ≠ s /\ ∃ y, p.1 = [(t, y)] := fun j p hj => by
  have hltn : j < n := by rw [<-hlen']; exact (List.getElem?_eq_some_iff.1 hj).1
  have hlt : j < ops.size := by omega
  refine ⟨ops[j], Array.getElem?_eq_getElem hlt, hltn, ?_⟩
  have h1 := hop j ops[j] hltn (Array.getElem?_eq_getElem hlt)
  split at h1
  ·rename_i e
   obtain ⟨ys, ψ, g1, g2, g3⟩ := h1
   rw [hj] at g1
   cases g1
   obtain ⟨_, ⟨d, r1, hd, rfl, _⟩ | ⟨r1, hd, rfl, _⟩⟩ := qA9 g2
   ·refine ⟨fun t x hm => ?_, fun t r hm => (by cases hm)⟩
    simp only [List.mem_singleton, Prod.mk.injEq] at hm
    obtain ⟨rfl, rfl⟩ := hm
    exact ⟨hd, rfl⟩
   ·exact ⟨fun t x hm => (by cases hm), fun t r hm => (by cases hm)⟩
  ·rename_i e
   obtain ⟨d, y, rn, ψ, g1, g2, g3, g4, g5⟩ := h1
   rw [hj] at g1
   cases g1
   refine ⟨fun t x hm => ?_, fun t r hm => ?_⟩
   ·simp only [List.mem_singleton, Prod.mk.injEq] at hm
    obtain ⟨rfl, rfl⟩ := hm
    exact ⟨g2, rfl⟩
   ·rcases stepZ_shape g2 g4 with e' | ⟨r', e'⟩
    ·rw [e'] at hm; cases hm
    ·rw [e'] at hm
     simp only [List.mem_singleton, Prod.mk.injEq] at hm
     obtain ⟨rfl, rfl⟩ := hm
     exact ⟨g2, e, y, rfl⟩
 have huS : ∀ (j j' : Nat) (p p' : Ent) (t : Nat) (x x' : SV), prs[j]? = some p -> prs[j']? = some p' -> (t, x) ∈ p.1 -> (t, x') ∈ p'.1 -> j = j' /\ x' = x := fun j j' p p' t x x' hj hj' hm hm' => by
  obtain ⟨o1, h1, _, h2, _⟩ := hent j p hj
  obtain ⟨o2, h3, _, h4, _⟩ := hent j' p' hj'
  have e := dep.dist j j' o1 o2 t h1 h3 (h2 t x hm).1 (h4 t x' hm').1
  subst e
  rw [hj] at hj'
  cases hj'
  refine ⟨rfl, ?_⟩
  rw [(h2 t x hm).2] at hm'
  simpa using hm'
 have hapS : ApartL (prs.map (·.1)) := by
  intro i j q q' hij hi hj t r r' hm hm'
  obtain ⟨p, h1, rfl⟩ := qY7 hi
  obtain ⟨p', h2, rfl⟩ := qY7 hj
  exact hij (huS i j p p' t r r' h1 h2 hm hm').1
 have huM : ∀ (j j' : Nat) (p p' : Ent) (t : Nat) (x x' : Res), prs[j]? = some p -> prs[j']? = some p' -> (t, x) ∈ p.2 -> (t, x') ∈ p'.2 -> j = j' := fun j j' p p' t x x' hj hj' hm hm' => by
  obtain ⟨o1, h1, _, _, h2⟩ := hent j p hj
  obtain ⟨o2, h3, _, _, h4⟩ := hent j' p' hj'
  exact dep.dist j j' o1 o2 t h1 h3 (h2 t x hm).1 (h4 t x' hm').1
 have hapM : ApartL (prs.map (·.2)) := by
  intro i j q q' hij hi hj t r r' hm hm'
  obtain ⟨p, h1, rfl⟩ := qY7 hi
  obtain ⟨p', h2, rfl⟩ := qY7 hj
  exact hij (huM i j p p' t r r' h1 h2 hm hm')
 have hnew : ∀ (j : Nat) (p : Ent) (t : Nat) (r : Res), prs[j]? = some p -> (t, r) ∈ p.2 -> freshE ops t j 0 prs = true /\ (freshS t A.sl = true /\ qK7 t A.rs = true) /\ (t = i0 ∨ qK7 t sp = true) := fun j p t r hj hm => by
  obtain ⟨op, h1, h2, h3, h4⟩ := hent j p hj
  obtain ⟨h5, h6, y, h7⟩ := h4 t r hm
  have e : p = ((t, y) :: [], p.2) := Prod.ext h7 rfl
  have := freshV1_ok hfr j t y [] p.2 (by rw [hj, <-e]) (.inr fun e' => by rw [e'] at hm; cases hm)
  rw [Nat.zero_add] at this
  exact ⟨this.1, this.2.1, this.2.2 h6⟩
 -- the special number, laid here, is laid before it is looked at
 have hi0b : ∀ (j : Nat) (p : Ent) (r : Res), prs[j]? = some p -> (i0, r) ∈ p.2 -> qJ8 ops s j = true := fun j p r hj hm => by
  obtain ⟨op, h1, h2, h3, h4⟩ := hent j p hj
  obtain ⟨h5, h6, _⟩ := h4 i0 r hm
  have hf := (hnew j p i0 r hj hm).2.1.2
  have hno : lk A.rs i0 = none := by
   cases hlk : lk A.rs i0 with
   | none => rfl
   | some r' => exact absurd rfl (qX4 hf (lk_mem hlk)).1
  rw [hno] at hat
  exact layBefore_ok hat h2 h1 h5 h6
 let SL : (Nat -> Bool) -> List (Nat × SV) := fun ls => qB3 ls 0 (prs.map (·.1)) ++ A.sl
 let RS : (Nat -> Bool) -> List (Nat × Res) := fun ls => (if ls s then sp else []) ++ (qB3 ls 0 (prs.map (·.2)) ++ A.rs)
 have hSLin : ∀ (ls : Nat -> Bool) (j : Nat) (p : Ent) (t : Nat) (x : SV), prs[j]? = some p -> (t, x) ∈ p.1 -> ls j = true -> lk (SL ls) t = some x := fun ls j p t x hj hm hls => by
  refine pickL_in (k := 0) (i := j) (p := p.1) (by rw [List.getElem?_map, hj]; rfl) (by simpa using hls) ?_ fun j' q hne hq r' hm' => ?_
  ·obtain ⟨r, hr⟩ := lkA_of hm
   rw [hr, (huS j j p p t x r hj hj hm (lkM hr)).2]
  ·obtain ⟨p', h2, rfl⟩ := qY7 hq
   exact hne (huS j j' p p' t x r' hj h2 hm hm').1.symm
 have hSLout : ∀ (ls : Nat -> Bool) (t : Nat), (∀ (j : Nat) (p : Ent) (x : SV), prs[j]? = some p -> ls j = true -> (t, x) ∉ p.1) -> lk (SL ls) t = lk A.sl t := fun ls t hno =>
  pickL_out fun j q hq hls r hm => by
   obtain ⟨p', h2, rfl⟩ := qY7 hq
   exact hno j p' r h2 hls hm
 have hPMin : ∀ (ls : Nat -> Bool) (j : Nat) (p : Ent) (t : Nat) (x : Res), prs[j]? = some p -> lk p.2 t = some x -> ls j = true -> lk (qB3 ls 0 (prs.map (·.2)) ++ A.rs) t = some x := fun ls j p t x hj hm hls => by
  refine pickL_in (k := 0) (i := j) (p := p.2) (by rw [List.getElem?_map, hj]; rfl) (by simpa using hls) hm fun j' q hne hq r' hm' => ?_
  obtain ⟨p', h2, rfl⟩ := qY7 hq
  exact hne (huM j j' p p' t x r' hj h2 (lkM hm) hm').symm
 have hPMout : ∀ (ls : Nat -> Bool) (t : Nat), (∀ (j : Nat) (p : Ent) (x : Res), prs[j]? = some p -> ls j = true -> (t, x) ∉ p.2) -> lk (qB3 ls 0 (prs.map (·.2)) ++ A.rs) t = lk A.rs t := fun ls t hno =>
  pickL_out fun j q hq hls r hm => by
   obtain ⟨p', h2, rfl⟩ := qY7 hq
   exact hno j p' r h2 hls hm
 have hPMbase : ∀ (ls : Nat -> Bool) (t : Nat) (r : Res), lk A.rs t = some r -> lk (qB3 ls 0 (prs.map (·.2)) ++ A.rs) t = some r := fun ls t r hr => by
  rw [hPMout ls t fun j p x hj _ hm => ?_]
  ·exact hr
  ·exact (qX4 (hnew j p t x hj hm).2.1.2 (lk_mem hr)).1 rfl
 intro o h tm w hs
 show (Code.region id ops true).wp P (kq P (lift Q o w) k) ⟨tm, []⟩ w
 refine wp_region_any hm ?_
 have main : ∀ (fuel : Nat) (listed : Array Bool) (o' : Nat -> Tag) (h' : Nat -> Value) (tm' : Array Value) (w' : World), listed.size = ops.size -> (∀ j, n ≤ j -> listed.getD j false = false) -> cntU (fun j => listed.getD j false) n + (ops.size - n) ≤ fuel ->
   (∀ (i : Nat) oi, ops[i]? = some oi -> listed.getD i false = true -> ∀ e ∈ oi.after, Region.binds .any e = true -> listed.getD e.on false = true) ->
   Sat o' h' ⟨A.n, SL (fun j => listed.getD j false), RS (fun j => listed.getD j false)⟩ tm' w' -> Ext o w o' w' -> wpAny P .any ops (kq P (lift Q o w) k) fuel listed ⟨tm', []⟩ w' := by
  intro fuel
  -- all have come up
  have full : ∀ (listed : Array Bool) (o' : Nat -> Tag) (h' : Nat -> Value) (tm' : Array Value) (w' : World), (∀ j, j < n -> listed.getD j false = true) ->
    Sat o' h' ⟨A.n, SL (fun j => listed.getD j false), RS (fun j => listed.getD j false)⟩ tm' w' -> Ext o w o' w' -> kq P (lift Q o w) (.ops ops (ops.toList.drop n) :: k) .normal ⟨tm', []⟩ w' := by
   intro listed o' h' tm' w' hall hs' hx
   refine qB7 (qW2 hx) (.ops ops (ops.toList.drop n) :: k) .normal _ w' (hn o' h' tm' w' ?_)
   refine ⟨hs'.size, hs'.tags, fun t x hl => hs'.slot t x ?_, fun i r hl => hs'.res i r ?_⟩
   ·simp only at hl ⊢
    by_cases hex : ∃ (j : Nat) (p : Ent) (y : SV), prs[j]? = some p /\ (t, y) ∈ p.1
    ·obtain ⟨j, p, y, hj, hy⟩ := hex
     obtain ⟨_, _, hjn, _⟩ := hent j p hj
     rw [lkU (qW4.2 ⟨j, p, hj, hy⟩) fun y' hy' => (by
      obtain ⟨j', p', hj', hm'⟩ := qW4.1 hy'
      exact (huS j j' p p' t y y' hj hj' hy hm').2)] at hl
     cases hl
     exact hSLin _ j p t _ hj hy (by simpa using hall j hjn)
    ·rw [qX6 fun y hy => (by
      obtain ⟨j', p', hj', hm'⟩ := qW4.1 hy
      exact hex ⟨j', p', y, hj', hm'⟩)] at hl
     rw [hSLout _ t fun j p x hj _ hm => hex ⟨j, p, x, hj, hm⟩]
     exact hl
   ·simp only at hl ⊢
    have e1 : (if listed.getD s false then sp else []) = sp := by
     by_cases hsn : s < n
     ·rw [hall s hsn]; rfl
     ·rw [hsp0 (by omega)]; split <;> rfl
    have e2 : qB3 (fun j => listed.getD j false) 0 (prs.map (·.2)) = memE prs := pickL_all fun j hj => by
     simp only [List.length_map, hlen'] at hj
     simpa using hall j hj
    simp only [RS, e1, e2]
    exact hl
  have done : ∀ (listed : Array Bool), listed.size = ops.size -> Region.ready .any ops listed = [] -> ∀ j, j < ops.size -> listed.getD j false = true := by
   intro listed hsz hr j
   induction j using Nat.strongRecOn with
   | ind j ih =>
     intro hj
     cases hlj : listed.getD j false with
     | true => rfl
     | false =>
       exfalso
       have : j ∈ Region.ready .any ops listed := by
        rw [mem_ready]
        refine ⟨?_, ops[j], Array.getElem?_eq_getElem hj, fun e he hb => ?_⟩
        ·rw [Array.getD_eq_getD_getElem?] at hlj ⊢
         rw [Array.getElem?_eq_getElem (by omega)] at hlj ⊢
         exact hlj
        ·have hlt := dep.below j ops[j] (Array.getElem?_eq_getElem hj) e he hb
         exact ih e.on hlt (by omega)
       rw [hr] at this
       cases this
  induction fuel with
  | zero =>
    intro listed o' h' tm' w' hsz hnl hc
    omega
  | succ fuel ih =>
    intro listed o' h' tm' w' hsz hnl hc hcl hs' hx
    refine ⟨fun hr => (by have := done listed hsz hr n (by omega); rw [hnl n (Nat.le_refl n)] at this; cases this), fun i hi => ?_⟩
    by_cases hin : n ≤ i
    ·obtain ⟨hun, op, hop', haft⟩ := mem_ready.1 hi
     have hlt : i < ops.size := (Array.getElem?_eq_some_iff.1 hop').1
     have hall : ∀ d j, j < i -> i ≤ j + d -> listed.getD j false = true := by
      intro d
      induction d with
      | zero => intro j h1 h2; omega
      | succ d ihd =>
        intro j h1 h2
        obtain ⟨q, oq, h3, h3', h4, e, h5, h6, h7⟩ := hstep i hin hlt j h1
        by_cases hqi : q = i
        ·subst hqi
         rw [hop'] at h4
         cases h4
         rw [<-h7]; exact haft e h5 h6
        ·have := ihd q (by omega) (by omega)
         rw [<-h7]; exact hcl q oq h4 this e h5 h6
     have hi0 : i = n := by
      rcases Nat.lt_or_ge n i with h | h
      ·have := hall i n h (by omega)
       rw [hnl n (Nat.le_refl n)] at this; cases this
      ·omega
     subst hi0
     have hf := full listed o' h' tm' w' (fun j hj => hall i j hj (by omega)) hs' hx
     exact (tailSeq hstep dep.below (ops.size - i) i (fuel + 1) listed ⟨tm', []⟩ w' (by omega) (Nat.le_refl _) hsz (fun j hj => hall i j hj (by omega)) hnl (by omega) hf).2 i hi
    obtain ⟨hun, op, hop', haft⟩ := mem_ready.1 hi
    have hlt : i < ops.size := (Array.getElem?_eq_some_iff.1 hop').1
    have hun' : listed.getD i false = false := by
     rw [Array.getD_eq_getD_getElem?, Array.getElem?_eq_getElem (by omega)] at hun ⊢
     exact hun
    have h1 := hop i op (by omega) hop'
    -- what has to come before the special one has come, once that one has
    have hsb : listed.getD s false = true -> ∀ j, qJ8 ops s j = true -> listed.getD j false = true := fun hls j hb => by
     exact qW3 (ls := fun j => listed.getD j false) hcl hb hls
    have hsl : ∀ t x, lk (qK8 (qV1 (prs.take i) ++ A.sl) (qW8 ops op)) t = some x -> lk (SL (fun j => listed.getD j false)) t = some x := fun t x hl => by
     obtain ⟨e1, hm⟩ := pickS_lk hl
     by_cases hex : ∃ (j : Nat) (p : Ent) (y : SV), prs[j]? = some p /\ (t, y) ∈ p.1
     ·obtain ⟨j, p, y', hj, hy⟩ := hex
      obtain ⟨oj, hoj, _, hdj, _⟩ := hent j p hj
      rcases dep.look i j op oj t hop' hoj (hdj t y' hy).1 hm with ⟨hji, e, he, hb, heq⟩ | ⟨hij, e, he, hb, heq⟩
      ·have hlj : listed.getD j false = true := by rw [<-heq]; exact haft e he hb
       rw [lkU (qW4.2 ⟨j, p, by rw [List.getElem?_take, if_pos hji]; exact hj, hy⟩) fun y'' hy'' => (by
        obtain ⟨j', p', hj', hm'⟩ := qW4.1 hy''
        rw [List.getElem?_take] at hj'
        split at hj'
        ·exact (huS j j' p p' t y' y'' hj hj' hy hm').2
        ·cases hj')] at e1
       cases e1
       exact hSLin _ j p t _ hj hy (by simpa using hlj)
      ·have hlj : listed.getD j false = false := by
        cases hlj : listed.getD j false with
        | false => rfl
        | true =>
          have := hcl j oj hoj hlj e he hb
          rw [heq, hun'] at this
          cases this
       rw [qX6 fun y'' hy'' => (by
        obtain ⟨j', p', hj', hm'⟩ := qW4.1 hy''
        rw [List.getElem?_take] at hj'
        split at hj'
        ·have := (huS j j' p p' t y' y'' hj hj' hy hm').1
         omega
        ·cases hj')] at e1
       rw [hSLout _ t fun j' p' x' hj' hls hm' => (by
        have := (huS j j' p p' t y' x' hj hj' hy hm').1
        subst this
        rw [hlj] at hls; cases hls)]
       exact e1
     ·rw [qX6 fun y'' hy'' => (by
       obtain ⟨j', p', hj', hm'⟩ := qW4.1 hy''
       rw [List.getElem?_take] at hj'
       split at hj'
       ·exact hex ⟨j', p', y'', hj', hm'⟩
       ·cases hj')] at e1
      rw [hSLout _ t fun j' p' x' hj' hls hm' => hex ⟨j', p', x', hj', hm'⟩]
      exact e1
    have hget : ∀ j, (listed.setIfInBounds i true).getD j false = if j = i then true else listed.getD j false := fun j => by
     by_cases hji : j = i
     ·subst hji
      rw [if_pos rfl, Array.getD_eq_getD_getElem?, Array.getElem?_setIfInBounds_self]
      simp [hsz, hlt]
     ·rw [if_neg hji, getD_set_ne false (Ne.symm hji)]
    have next : ∀ {ys : List (Nat × SV)} {rn sp' : List (Nat × Res)}, prs[i]? = some (ys, rn) -> (∀ t r, lk (RS (fun j => (listed.setIfInBounds i true).getD j false)) t = some r -> lk (sp' ++ RS (fun j => listed.getD j false)) t = some r) ->
      ∀ o2 h2 tm2 w1, Sat o2 h2 ⟨A.n, ys ++ SL (fun j => listed.getD j false), sp' ++ RS (fun j => listed.getD j false)⟩ tm2 w1 -> Ext o' w' o2 w1 -> wpAny P .any ops (kq P (lift Q o w) k) fuel (listed.setIfInBounds i true) ⟨tm2, []⟩ w1 := fun {ys rn sp'} hpi hrs o2 h2 tm2 w1 hs2 hext => by
     refine ih (listed.setIfInBounds i true) o2 h2 _ w1 (by simp [hsz]) (fun j hj => by rw [hget, if_neg (by omega)]; exact hnl j hj) ?_ ?_ ⟨hs2.size, hs2.tags, fun t x hlk => hs2.slot t x ?_, fun t r hlk => hs2.res t r (hrs t r hlk)⟩ (hx.trans hext)
     ·have := cntU_upd (ls := fun j => listed.getD j false) (ls' := fun j => (listed.setIfInBounds i true).getD j false) (i := i) (n := n) (by omega) hun' (by simp [hget]) fun j hj => by simp [hget, hj]
      omega
     ·intro j oj hoj hlj e he hb
      rw [hget] at hlj ⊢
      by_cases he' : e.on = i
      ·rw [if_pos he']
      ·rw [if_neg he']
       by_cases hji : j = i
       ·subst hji
        rw [hop'] at hoj
        cases hoj
        exact haft e he hb
       ·rw [if_neg hji] at hlj
        exact hcl j oj hoj hlj e he hb
     ·exact qE0 (p := ys) hapS (by rw [List.getElem?_map, hpi]; rfl) (by simp [hget]) (fun j hj => by simp [hget, hj]) hlk
    by_cases his : i = s
    ·rw [if_pos his] at h1
     obtain ⟨ys, ψ, g1, g2, g3⟩ := h1
     have huns : listed.getD s false = false := by rw [<-his]; exact hun'
     have hRS : RS (fun j => listed.getD j false) = qB3 (fun j => listed.getD j false) 0 (prs.map (·.2)) ++ A.rs := by
      simp only [RS, huns]; rfl
     refine stepS_wp hl hop' (A := ⟨A.n, SL (fun j => listed.getD j false), RS (fun j => listed.getD j false)⟩) (B := ⟨A.n, qK8 (qV1 (prs.take i) ++ A.sl) (qW8 ops op), pickR (memE (prs.take i)) (qW8 ops op) ++ A.rs⟩) ⟨rfl, fun t r hr => ?_, hsl⟩ hs' g2 g3 (fun d y hdy => ?_) (next g1 fun t r hr => ?_)
     ·simp only at hr ⊢
      rw [hRS]
      by_cases hm : ∃ r', (t, r') ∈ pickR (memE (prs.take i)) (qW8 ops op)
      ·obtain ⟨r', hm⟩ := hm
       obtain ⟨r2, h2⟩ := lkA_of hm
       rw [qD2 h2] at hr
       cases hr
       have hm2 := lkM h2
       rw [pickR, List.mem_filter] at hm2
       obtain ⟨hm3, hlook⟩ := hm2
       obtain ⟨j, p, hj, hm4⟩ := memE_mem.1 hm3
       rw [List.getElem?_take] at hj
       split at hj
       ·rename_i hji
        obtain ⟨oj, hoj, _, _, hdj⟩ := hent j p hj
        obtain ⟨k1, k2, y, k3⟩ := hdj t _ hm4
        rcases dep.look i j op oj t hop' hoj k1 (memN_yes hlook) with ⟨_, ed, hed, hb, heq⟩ | ⟨hij, _⟩
        ·have hlj : listed.getD j false = true := by rw [<-heq]; exact haft ed hed hb
         obtain ⟨r4, h4⟩ := lkA_of hm4
         have e4 : r4 = r := by
          have h5 := hop j oj (by omega) hoj
          rw [if_neg k2] at h5
          obtain ⟨d', y', rn', ψ', q1, q2, _, q4, _⟩ := h5
          rw [hj] at q1
          cases q1
          rcases stepZ_shape q2 q4 with e | ⟨r5, e⟩
          ·rw [e] at hm4; cases hm4
          ·rw [e] at hm4 h4
           simp only [List.mem_singleton, Prod.mk.injEq] at hm4
           obtain ⟨rfl, rfl⟩ := hm4
           rw [qQ3, if_pos rfl] at h4
           cases h4; rfl
         rw [e4] at h4
         exact hPMin _ j p t r hj h4 (by simpa using hlj)
        ·omega
       ·cases hj
      ·rw [qX6 fun r' h' => hm ⟨r', h'⟩] at hr
       exact hPMbase _ t r hr
     ·have hf := freshV1_ok hfr i d y [] [] (by
       rw [g1]
       obtain ⟨_, ⟨d', r1, _, e, _⟩ | ⟨r1, _, e, _⟩⟩ := qA9 g2
       ·rw [e] at hdy ⊢
        simp only [List.mem_singleton, Prod.mk.injEq] at hdy
        obtain ⟨rfl, rfl⟩ := hdy
        rfl
       ·rw [e] at hdy; cases hdy) (.inl (by omega))
      rw [Nat.zero_add] at hf
      rw [hRS]
      refine fresh_super hf.2.1.1 hf.2.1.2 (fun t x hm => ?_) (fun t r hm => ?_)
      ·obtain ⟨j, q, hj, hlj, hm'⟩ := qA2 hm
       obtain ⟨p', hj', rfl⟩ := qY7 hj
       exact menL_ok (qB8 hf.1 j p' hj' (by intro e; rw [Nat.zero_add] at e hlj; subst e; rw [hun'] at hlj; cases hlj) (by
        rw [Nat.zero_add] at hlj ⊢
        cases hbo : qJ8 ops j i with
        | false => rfl
        | true =>
          have := qW3 (ls := fun j => listed.getD j false) hcl hbo hlj
          rw [hun'] at this; cases this)).1 t x hm'
      ·obtain ⟨j, q, hj, hlj, hm'⟩ := qA2 hm
       obtain ⟨p', hj', rfl⟩ := qY7 hj
       exact qX4 (qB8 hf.1 j p' hj' (by intro e; rw [Nat.zero_add] at e hlj; subst e; rw [hun'] at hlj; cases hlj) (by
        rw [Nat.zero_add] at hlj ⊢
        cases hbo : qJ8 ops j i with
        | false => rfl
        | true =>
          have := qW3 (ls := fun j => listed.getD j false) hcl hbo hlj
          rw [hun'] at this; cases this)).2 hm'
     ·have hnews : (listed.setIfInBounds i true).getD s false = true := by rw [hget, if_pos his.symm]
      have hRS' : RS (fun j => (listed.setIfInBounds i true).getD j false) = sp ++ (qB3 (fun j => (listed.setIfInBounds i true).getD j false) 0 (prs.map (·.2)) ++ A.rs) := by
       simp only [RS, hnews]; rfl
      rw [hRS'] at hr
      rw [hRS]
      by_cases hmem : ∃ r', (t, r') ∈ sp
      ·obtain ⟨r', hmem⟩ := hmem
       obtain ⟨r2, h2⟩ := lkA_of hmem
       rw [qD2 h2] at hr ⊢
       exact hr
      ·rw [qX6 fun r' h' => hmem ⟨r', h'⟩] at hr ⊢
       have := qE0 (p := []) hapM (by rw [List.getElem?_map, g1]; rfl) (ls' := fun j => (listed.setIfInBounds i true).getD j false) (ls := fun j => listed.getD j false) (by simp [hget]) (fun j hj => by simp [hget, hj]) hr
       simpa using this
    ·rw [if_neg his] at h1
     obtain ⟨d, y, rn, ψ, g1, g2, g3, g4, g5⟩ := h1
     have hkey : ∀ t r, (t, r) ∈ rn -> t = d := fun t r hm => by
      rcases stepZ_shape g2 g4 with e | ⟨r', e⟩
      ·rw [e] at hm; cases hm
      ·rw [e] at hm
       simp only [List.mem_singleton, Prod.mk.injEq] at hm
       exact hm.1
     -- the new number is none of the special ones, once these are there
     have hspd : listed.getD s false = true -> ∀ t r, (t, r) ∈ rn -> qK7 t sp = true := fun hls t r hm => by
      rcases (hnew i _ t r g1 hm).2.2 with e | e
      ·rw [e] at hm
       have := hsb hls i (hi0b i _ r g1 hm)
       rw [hun'] at this; cases this
      ·exact e
     have hfr' : rn ≠ [] -> qW9 ⟨A.n, SL (fun j => listed.getD j false), RS (fun j => listed.getD j false)⟩ d = true := fun hne => by
      obtain ⟨r, hr⟩ : ∃ r, (d, r) ∈ rn := by
       rcases stepZ_shape g2 g4 with e | ⟨r', e⟩
       ·exact absurd e hne
       ·exact ⟨r', by rw [e]; exact .head _⟩
      have hf := hnew i _ d r g1 hr
      simp only [RS]
      rw [<-List.append_assoc]
      refine fresh_super hf.2.1.1 hf.2.1.2 (fun t x hm => ?_) (fun t r' hm => ?_)
      ·obtain ⟨j, q, hj, hlj, hm'⟩ := qA2 hm
       obtain ⟨p', hj', rfl⟩ := qY7 hj
       exact menL_ok (qB8 hf.1 j p' hj' (by intro e; rw [Nat.zero_add] at e hlj; subst e; rw [hun'] at hlj; cases hlj) (by
        rw [Nat.zero_add] at hlj ⊢
        cases hbo : qJ8 ops j i with
        | false => rfl
        | true =>
          have := qW3 (ls := fun j => listed.getD j false) hcl hbo hlj
          rw [hun'] at this; cases this)).1 t x hm'
      ·rcases List.mem_append.1 hm with hm | hm
       ·split at hm
        ·rename_i hls
         exact qX4 (hspd hls d r hr) hm
        ·cases hm
       ·obtain ⟨j, q, hj, hlj, hm'⟩ := qA2 hm
        obtain ⟨p', hj', rfl⟩ := qY7 hj
        exact qX4 (qB8 hf.1 j p' hj' (by intro e; rw [Nat.zero_add] at e hlj; subst e; rw [hun'] at hlj; cases hlj) (by
        rw [Nat.zero_add] at hlj ⊢
        cases hbo : qJ8 ops j i with
        | false => rfl
        | true =>
          have := qW3 (ls := fun j => listed.getD j false) hcl hbo hlj
          rw [hun'] at this; cases this)).2 hm'
     refine stepZ_wp hl hT hop' (A := ⟨A.n, SL (fun j => listed.getD j false), RS (fun j => listed.getD j false)⟩) (B := ⟨A.n, qK8 (qV1 (prs.take i) ++ A.sl) (qW8 ops op), bif qJ8 ops s i then A.rs else qA8 i0 A.rs⟩) ⟨rfl, fun t r hr => ?_, hsl⟩ hs' g2 g3 g4 g5 hfr' fun o2 h2 v w1 hs2 hext => next g1 (sp' := rn) (fun t r hr => ?_) o2 h2 _ w1 hs2 hext
     ·simp only at hr ⊢
      cases hbo : qJ8 ops s i with
      | true =>
        rw [hbo] at hr
        have huns : listed.getD s false = false := by
         cases hls : listed.getD s false with
         | false => rfl
         | true => have := hsb hls i hbo; rw [hun'] at this; cases this
        simp only [RS, huns]
        exact hPMbase _ t r hr
      | false =>
        rw [hbo] at hr
        obtain ⟨k1, k2⟩ := without_lk hr
        simp only [RS]
        rw [qX6 fun r' hm => ?_]
        ·exact hPMbase _ t r k1
        ·split at hm
         ·rename_i hls
          by_cases hsn : s < n
          ·have h6 := hop s ops[s] hsn (Array.getElem?_eq_getElem (by omega))
           rw [if_pos rfl] at h6
           obtain ⟨ys, ψ', q1, q2, _⟩ := h6
           rcases stepS_keys q2 t r' hm with e | ⟨y', hy'⟩
           ·exact k2 e
           ·obtain ⟨_, ⟨d', r1, _, e, _⟩ | ⟨r1, _, e, _⟩⟩ := qA9 q2
            ·rw [e] at q1 hy'
             simp only [List.mem_singleton, Prod.mk.injEq] at hy'
             obtain ⟨rfl, _⟩ := hy'
             have hf := freshV1_ok hfr s t _ [] [] q1 (.inl (by omega))
             exact (qX4 hf.2.1.2 (lk_mem k1)).1 rfl
            ·rw [e] at hy'; cases hy'
          ·rw [hsp0 (by omega)] at hm; cases hm
         ·cases hm
     ·have hnews : (listed.setIfInBounds i true).getD s false = listed.getD s false := by rw [hget, if_neg (Ne.symm his)]
      simp only [RS, hnews] at hr ⊢
      by_cases hmem : ∃ r', (t, r') ∈ (if listed.getD s false = true then sp else [])
      ·obtain ⟨r', hmem⟩ := hmem
       rw [qX6 fun r2 h2 => ?_]
       ·obtain ⟨r3, h3⟩ := lkA_of hmem
        rw [qD2 h3] at hr ⊢
        exact hr
       ·split at hmem
        ·rename_i hls
         exact (qX4 (hspd hls t r2 h2) hmem).1 rfl
        ·cases hmem
      ·rw [qX6 fun r' h' => hmem ⟨r', h'⟩] at hr
       have := qE0 (p := rn) hapM (by rw [List.getElem?_map, g1]; rfl) (ls' := fun j => (listed.setIfInBounds i true).getD j false) (ls := fun j => listed.getD j false) (by simp [hget]) (fun j hj => by simp [hget, hj]) hr
       by_cases hrn : ∃ r', (t, r') ∈ rn
       ·obtain ⟨r', hrn⟩ := hrn
        obtain ⟨r2, h2⟩ := lkA_of hrn
        rw [qD2 h2] at this ⊢
        exact this
       ·rw [qX6 fun r' h' => hrn ⟨r', h'⟩] at this ⊢
        rw [qX6 fun r' h' => hmem ⟨r', h'⟩]
        exact this
 refine main ops.size (Array.replicate ops.size false) o h tm w.drew (by simp) (fun j _ => by simp [Array.getD_eq_getD_getElem?, Array.getElem?_replicate]; split <;> rfl) ?_ ?_ ?_ (Ext.drew o w)
 ·have : ∀ n, cntU (fun j => (Array.replicate ops.size false).getD j false) n ≤ n := by
   intro n
   induction n with
   | zero => exact Nat.le_refl _
   | succ n ih => simp only [cntU]; split <;> omega
  have := this n
  omega
 ·intro i oi hoi hli
  simp [Array.getD_eq_getD_getElem?, Array.getElem?_replicate] at hli
  split at hli <;> cases hli
 ·have hs' := hs.drew
  have hno : ∀ j, (fun j => (Array.replicate ops.size false).getD j false) j = false := fun j => by
   simp [Array.getD_eq_getD_getElem?, Array.getElem?_replicate]
   split <;> rfl
  have hno' := hno s
  simp only at hno'
  have e1 : SL (fun j => (Array.replicate ops.size false).getD j false) = A.sl := by simp only [SL]; rw [pickL_none hno]; rfl
  have e2 : RS (fun j => (Array.replicate ops.size false).getD j false) = A.rs := by simp only [RS, hno']; rw [pickL_none hno]; rfl
  rw [e1, e2]
  exact hs'
theorem KW.goDV {k k' : List K} {e : Exit} (hl : qJ1 P lay) (hT : FnsOk P fns) (hm : P.follows .mixedOrders = true) (f : Nat) {id : Nat} {ops : Array Oper} {φ ψ : Prop} (h : run2 lay fns f k e A True = (.code (.region id ops true) :: k', .normal, A', φ)) (n s i0 : Nat) (hsz0 : Nat.blt n ops.size = true) (hdep : depOk ops = true) (htl : tailsOk ops n = true) (hat : (match lk A'.rs i0 with | some _ => true | none => layBefore ops s i0 n) = true)
  {prs : List Ent} {sp : List (Nat × Res)} (hg : drawV lay fns ops A'.rs (qA8 i0 A'.rs) A'.n s i0 (takeN n ops.toList) 0 A'.sl [] True = some (prs, sp, ψ)) (hfr : freshV1 ops prs sp A' s i0 0 prs = true) (hφ : φ) (hψ : ψ)
  (hn : KW P (.ops ops (dropN n ops.toList) :: k') .normal ⟨A'.n, qV1 prs ++ A'.sl, sp ++ (memE prs ++ A'.rs)⟩ Q) : KW P k e A Q :=
 KW.go hl hT f h hφ (KW.drawnV hl hT hm s i0 hsz0 hdep htl hat hg hfr hψ hn)
theorem KW.dupG (i j : Nat) {k : List K} {e : Exit} {b T : Nat} {vs : List Value} (hi : lk A.rs i = some (.glo b T vs)) (hk : KW P k e ⟨A.n, A.sl, (j, .glo b T vs) :: A.rs⟩ Q) : KW P k e A Q :=
 KW.weaken (A' := ⟨A.n, A.sl, (j, .glo b T vs) :: A.rs⟩) (fun o h tm w hs => ⟨o, h, ⟨hs.size, hs.tags, hs.slot, fun i' r hl => by
  rw [qQ3] at hl
  split at hl
  ·cases hl; exact hs.res i _ hi
  ·exact hs.res i' r hl⟩, Ext.refl o w⟩) hk
end
end Go.Sy
end
section
namespace Go.Sy
variable [Drw]
section
variable {P : Program} {lay : Lay} {A A' B : St} {Q : Exit -> St -> Prop} {fns : Fns} {o : Nat -> Tag} {h : Nat -> Value} {tm : Array Value} {w : World}
def phaseE (lay : Lay) (fns : Fns) (ops : Array Oper) (rs : List (Nat × Res)) (n : Nat) (F : List Nat) : List Oper -> Nat -> List (Nat × SV) -> Prop -> Option (List Ent × Prop)
 | [], _, _, φ => some ([], φ)
 | op :: l, i, sl, φ => match memN i F with
   | false => match phaseE lay fns ops rs n F l (i + 1) sl φ with
     | some (ps, χ) => some (([], []) :: ps, χ)
     | none => none
   | true => match op.dst with
     | some d => match Nat.blt d n, stepZ lay fns ⟨n, qK8 sl (qW8 ops op), rs⟩ ops op n with
       | true, some (y, rn, ψ) => match phaseE lay fns ops rs n F l (i + 1) ((d, y) :: sl) (φ /\ ψ) with
         | some (ps, χ) => some (([(d, y)], rn) :: ps, χ)
         | none => none
       | _, _ => none
     | none => none
theorem phaseE_spec {ops : Array Oper} {rs : List (Nat × Res)} {n : Nat} {F : List Nat} : ∀ {l : List Oper} {k : Nat} {sl : List (Nat × SV)} {prs : List Ent} {φ φ' : Prop}, phaseE lay fns ops rs n F l k sl φ = some (prs, φ') -> φ' -> φ /\ prs.length = l.length /\
  ∀ (i : Nat) op, l[i]? = some op -> if memN (k + i) F = true then ∃ d y rn ψ, prs[i]? = some ([(d, y)], rn) /\ op.dst = some d /\ Nat.blt d n = true /\ stepZ lay fns ⟨n, qK8 (qV1 (prs.take i) ++ sl) (qW8 ops op), rs⟩ ops op n = some (y, rn, ψ) /\ ψ
    else prs[i]? = some ([], [])
 | [], k, sl, prs, φ, φ', h, hφ => by
   simp only [phaseE, Option.some.injEq, Prod.mk.injEq] at h
   obtain ⟨rfl, rfl⟩ := h
   exact ⟨hφ, rfl, by simp⟩
 | op :: l, k, sl, prs, φ, φ', h, hφ => by
   simp only [phaseE] at h
   split at h
   ·rename_i hk
    split at h
    ·rename_i ps χ hrec
     simp only [Option.some.injEq, Prod.mk.injEq] at h
     obtain ⟨rfl, rfl⟩ := h
     obtain ⟨h1, h2, h4⟩ := phaseE_spec hrec hφ
     refine ⟨h1, by simp [h2], fun i op' hi => ?_⟩
     cases i with
     | zero =>
       rw [Nat.add_zero, hk, if_neg (by decide)]; rfl
     | succ i =>
       simp at hi
       have := h4 i op' hi
       rw [show k + (i + 1) = k + 1 + i by omega]
       split
       ·rename_i e
        rw [if_pos e] at this
        obtain ⟨d', y', rn', ψ', g1, g2, g3, g4, g5⟩ := this
        refine ⟨d', y', rn', ψ', by simpa using g1, g2, g3, ?_, g5⟩
        rw [List.take_succ_cons, qV6]; exact g4
       ·rename_i e
        rw [if_neg e] at this
        simpa using this
    ·cases h
   ·rename_i hk
    split at h
    ·rename_i d hd
     split at h
     ·rename_i y rn ψ hlt hs
      split at h
      ·rename_i ps χ hrec
       simp only [Option.some.injEq, Prod.mk.injEq] at h
       obtain ⟨rfl, rfl⟩ := h
       obtain ⟨h1, h2, h4⟩ := phaseE_spec hrec hφ
       refine ⟨h1.1, by simp [h2], fun i op' hi => ?_⟩
       cases i with
       | zero =>
         simp at hi; subst hi
         rw [Nat.add_zero, hk, if_pos rfl]
         exact ⟨d, y, rn, ψ, by simp, hd, hlt, by simpa [qV1] using hs, h1.2⟩
       | succ i =>
         simp at hi
         have := h4 i op' hi
         rw [show k + (i + 1) = k + 1 + i by omega]
         split
         ·rename_i e
          rw [if_pos e] at this
          obtain ⟨d', y', rn', ψ', g1, g2, g3, g4, g5⟩ := this
          refine ⟨d', y', rn', ψ', by simpa using g1, g2, g3, ?_, g5⟩
          rw [List.take_succ_cons, qV6]; exact g4
         ·rename_i e
          rw [if_neg e] at this
          simpa using this
      ·cases h
     ·cases h
    ·cases h
def eqA : List Bool -> List Bool -> Bool
 | [], [] => true
 | a :: l, b :: r => (a == b) && eqA l r
 | _, _ => false
theorem eqA_ok : ∀ {l r : List Bool}, eqA l r = true -> l = r
 | [], [], _ => rfl
 | a :: l, b :: r, h => by
   simp only [eqA, Bool.and_eq_true] at h
   rw [eqA_ok h.2]
   rw [beq_iff_eq.1 h.1]
 | [], b :: r, h => by cases h
 | a :: l, [], h => by cases h
def inS (S : List (Array Bool)) (L : Array Bool) : Bool := S.any fun M => eqA M.toList L.toList
theorem inS_ok {S : List (Array Bool)} {L : Array Bool} (h : inS S L = true) : L ∈ S := by
 unfold inS at h
 obtain ⟨M, hM, h⟩ := List.any_eq_true.1 h
 have := Array.toList_inj.1 (eqA_ok h)
 rwa [<-this]
def phaseS (ops : Array Oper) (l0 : Array Bool) : List Nat -> List (Array Bool)
 | F => F.foldl (fun S i => S ++ (S.filter fun L => memN i (Region.ready .any ops L)).map fun L => L.setIfInBounds i true) [l0]
def cntF (L : Array Bool) : Nat := L.toList.countP fun b => !b
def closedL (ops : Array Oper) (L : Array Bool) : Bool := (List.range ops.size).all fun i => match ops[i]? with
 | some op => !L.getD i false || op.after.toList.all fun e => !Region.binds .any e || L.getD e.on false
 | none => true
theorem closedL_ok {ops : Array Oper} {L : Array Bool} (h : closedL ops L = true) (i : Nat) (op : Oper) (hop : ops[i]? = some op) (hi : L.getD i false = true) : ∀ e ∈ op.after, Region.binds .any e = true -> L.getD e.on false = true := fun e he hb => by
 unfold closedL at h
 rw [List.all_eq_true] at h
 have := h i (List.mem_range.2 (Array.getElem?_eq_some_iff.1 hop).1)
 rw [hop] at this
 simp only [hi, Bool.not_true, Bool.false_or, List.all_eq_true] at this
 have := this e (by simpa using he)
 simpa [hb] using this
def phaseOk (ops : Array Oper) (F : List Nat) (c : Nat) (l0 : Array Bool) (S : List (Array Bool)) : Bool :=
 inS S l0 && (F.all fun i => !l0.getD i false) && S.all fun L => Nat.beq L.size ops.size && closedL ops L && (Region.ready .any ops L).all fun i => Nat.beq i c || (memN i F && inS S (L.setIfInBounds i true))
theorem cntF_set {L : Array Bool} {i : Nat} (hi : L.getD i true = false) : cntF L = cntF (L.setIfInBounds i true) + 1 := by
 have hlt : i < L.size := by
  rw [Array.getD_eq_getD_getElem?] at hi
  rcases Nat.lt_or_ge i L.size with h | h
  ·exact h
  ·rw [Array.getElem?_eq_none h] at hi; cases hi
 have hv : L.toList[i]? = some false := by
  rw [Array.getD_eq_getD_getElem?, Array.getElem?_eq_getElem hlt] at hi
  rw [Array.getElem?_toList, Array.getElem?_eq_getElem hlt]
  simpa using hi
 unfold cntF
 rw [Array.toList_setIfInBounds]
 generalize L.toList = l at hv
 clear hi hlt
 induction l generalizing i with
 | nil => simp at hv
 | cons a l ih =>
   cases i with
   | zero =>
     simp at hv
     subst hv
     simp [List.countP_cons]
   | succ i =>
     simp at hv
     have := ih hv
     simp only [List.set_cons_succ, List.countP_cons]
     omega
theorem wpOp_of {ops : Array Oper} {k : List K} {fuel i : Nat} {listed : Array Bool} {op : Oper} (hop : ops[i]? = some op) (hk : KW P [.ops ops [op]] .normal A fun e A' => e = .normal /\ KA P ops k Q fuel listed A')
  {o0 : Nat -> Tag} {w0 : World} (hs : Sat o h A tm w) (hx : Ext o0 w0 o w) : wpOp P ops (fun e a w' => kq P (lift Q o0 w0) k e a w') i (fun a w' => wpAny P .any ops (kq P (lift Q o0 w0) k) fuel listed a w') ⟨tm, []⟩ w := by
 have h1 := hk o h tm w hs
 replace h1 : wpList P ops (lift (fun e A' => e = .normal /\ KA P ops k Q fuel listed A') o w) [op] ⟨tm, []⟩ w := h1
 have hnx : ∀ a w', lift (fun e A' => e = Exit.normal /\ KA P ops k Q fuel listed A') o w .normal a w' -> wpAny P .any ops (kq P (lift Q o0 w0) k) fuel listed a w' := by
  rintro ⟨tm', d⟩ w' ⟨hd, o', h', A', ⟨_, hka⟩, hs', hx'⟩
  simp only at hd hs'
  subst hd
  exact hka o0 w0 o' h' tm' w' hs' (hx.trans hx')
 unfold wpOp
 rw [hop]
 simp only
 unfold wpList at h1
 split
 ·rename_i hw
  rw [if_pos hw] at h1
  rcases h1 with h1 | ⟨_, a', w', h2⟩
  ·refine .inl (upon_out (fun a w' h => hnx a w' (by unfold wpList at h; exact h)) (fun e a w' hne' hq => ?_) h1)
   obtain ⟨_, _, _, _, ⟨e0, _⟩, _⟩ := hq
   exact absurd e0 hne'
  ·obtain ⟨_, _, _, _, ⟨e0, _⟩, _⟩ := h2
   cases e0
 ·rename_i hw
  rw [if_neg hw] at h1
  exact hnx _ _ (by unfold wpList at h1; exact h1)
theorem pickL_nil {α : Type} {ls : Nat -> Bool} : ∀ {ps : List (List (Nat × α))} {k : Nat}, (∀ (j : Nat) (p : List (Nat × α)), ps[j]? = some p -> ls (k + j) = true -> p = []) -> qB3 ls k ps = []
 | [], _, _ => rfl
 | p :: l, k, h => by
   have h0 : (if ls k then p else []) = [] := by
    split
    ·rename_i e; exact h 0 p rfl (by simpa using e)
    ·rfl
   rw [qB3, h0, pickL_nil (ps := l) (k := k + 1) fun j q hj hl => h (j + 1) q (by simpa using hj) (by rwa [show k + (j + 1) = k + 1 + j by omega])]
   rfl
theorem KA.phase (hl : qJ1 P lay) (hT : FnsOk P fns) {ops : Array Oper} {k : List K} (F : List Nat) (c : Nat) {l0 : Array Bool} (hdep : depOk ops = true) (hS : phaseOk ops F c l0 (phaseS ops l0 F) = true)
  {prs : List Ent} {φ : Prop} (hg : phaseE lay fns ops A.rs A.n F ops.toList 0 A.sl True = some (prs, φ)) (hfr : freshV1 ops prs [] A ops.size 0 0 prs = true) (hφ : φ)
  {cs : List (Array Bool)} (hcs : ((phaseS ops l0 F).filter fun L => memN c (Region.ready .any ops L)) = cs)
  (hc : ∀ L ∈ cs, ∃ opc, ops[c]? = some opc /\ KW P [.ops ops [opc]] .normal ⟨A.n, qB3 (fun j => L.getD j false) 0 (prs.map (·.1)) ++ A.sl, qB3 (fun j => L.getD j false) 0 (prs.map (·.2)) ++ A.rs⟩ fun e A' => e = .normal /\ KA P ops k Q (cntF (L.setIfInBounds c true)) (L.setIfInBounds c true) A')
  {ds : List (Array Bool)} (hds : ((phaseS ops l0 F).filter fun L => (Region.ready .any ops L).isEmpty) = ds)
  (hd : ∀ L ∈ ds, KW P k .normal ⟨A.n, qB3 (fun j => L.getD j false) 0 (prs.map (·.1)) ++ A.sl, qB3 (fun j => L.getD j false) 0 (prs.map (·.2)) ++ A.rs⟩ Q) : KA P ops k Q (cntF l0) l0 A := by
 obtain ⟨_, hlen, hprs⟩ := phaseE_spec hg hφ
 have dep := depOk_ok hdep
 have hlen' : prs.length = ops.size := by simpa using hlen
 generalize hSe : phaseS ops l0 F = S at *
 unfold phaseOk at hS
 simp only [Bool.and_eq_true] at hS
 obtain ⟨⟨hS0, hF0⟩, hS1⟩ := hS
 rw [List.all_eq_true] at hF0 hS1
 have hop : ∀ (i : Nat) op, ops[i]? = some op -> if memN i F = true then ∃ d y rn ψ, prs[i]? = some ([(d, y)], rn) /\ op.dst = some d /\ Nat.blt d A.n = true /\ stepZ lay fns ⟨A.n, qK8 (qV1 (prs.take i) ++ A.sl) (qW8 ops op), A.rs⟩ ops op A.n = some (y, rn, ψ) /\ ψ
   else prs[i]? = some ([], []) := fun i op hi => by
  have := hprs i op (by simpa using hi)
  simpa only [Nat.zero_add] using this
 have hent : ∀ (j : Nat) (p : Ent), prs[j]? = some p -> ∃ op, ops[j]? = some op /\ (∀ t x, (t, x) ∈ p.1 -> memN j F = true /\ op.dst = some t /\ p.1 = [(t, x)]) /\ ∀ t r, (t, r) ∈ p.2 -> memN j F = true /\ op.dst = some t /\ ∃ y, p.1 = [(t, y)] := fun j p hj => by
  have hlt : j < ops.size := by rw [<-hlen']; exact (List.getElem?_eq_some_iff.1 hj).1
  refine ⟨ops[j], Array.getElem?_eq_getElem hlt, ?_⟩
  have h1 := hop j ops[j] (Array.getElem?_eq_getElem hlt)
  split at h1
  ·rename_i e
   obtain ⟨d, y, rn, ψ, g1, g2, g3, g4, g5⟩ := h1
   rw [hj] at g1
   cases g1
   refine ⟨fun t x hm => ?_, fun t r hm => ?_⟩
   ·simp only [List.mem_singleton, Prod.mk.injEq] at hm
    obtain ⟨rfl, rfl⟩ := hm
    exact ⟨e, g2, rfl⟩
   ·rcases stepZ_shape g2 g4 with e' | ⟨r', e'⟩
    ·rw [e'] at hm; cases hm
    ·rw [e'] at hm
     simp only [List.mem_singleton, Prod.mk.injEq] at hm
     obtain ⟨rfl, rfl⟩ := hm
     exact ⟨e, g2, y, rfl⟩
  ·rw [hj] at h1
   cases h1
   exact ⟨fun t x hm => (by cases hm), fun t r hm => (by cases hm)⟩
 have huS : ∀ (j j' : Nat) (p p' : Ent) (t : Nat) (x x' : SV), prs[j]? = some p -> prs[j']? = some p' -> (t, x) ∈ p.1 -> (t, x') ∈ p'.1 -> j = j' /\ x' = x := fun j j' p p' t x x' hj hj' hm hm' => by
  obtain ⟨o1, h1, h2, _⟩ := hent j p hj
  obtain ⟨o2, h3, h4, _⟩ := hent j' p' hj'
  have e := dep.dist j j' o1 o2 t h1 h3 (h2 t x hm).2.1 (h4 t x' hm').2.1
  subst e
  rw [hj] at hj'
  cases hj'
  refine ⟨rfl, ?_⟩
  rw [(h2 t x hm).2.2] at hm'
  simpa using hm'
 have hapS : ApartL (prs.map (·.1)) := by
  intro i j q q' hij hi hj t r r' hm hm'
  obtain ⟨p, h1, rfl⟩ := qY7 hi
  obtain ⟨p', h2, rfl⟩ := qY7 hj
  exact hij (huS i j p p' t r r' h1 h2 hm hm').1
 have huM : ∀ (j j' : Nat) (p p' : Ent) (t : Nat) (x x' : Res), prs[j]? = some p -> prs[j']? = some p' -> (t, x) ∈ p.2 -> (t, x') ∈ p'.2 -> j = j' := fun j j' p p' t x x' hj hj' hm hm' => by
  obtain ⟨o1, h1, _, h2⟩ := hent j p hj
  obtain ⟨o2, h3, _, h4⟩ := hent j' p' hj'
  exact dep.dist j j' o1 o2 t h1 h3 (h2 t x hm).2.1 (h4 t x' hm').2.1
 have hapM : ApartL (prs.map (·.2)) := by
  intro i j q q' hij hi hj t r r' hm hm'
  obtain ⟨p, h1, rfl⟩ := qY7 hi
  obtain ⟨p', h2, rfl⟩ := qY7 hj
  exact hij (huM i j p p' t r r' h1 h2 hm hm')
 have hnew : ∀ (j : Nat) (p : Ent) (t : Nat) (r : Res), prs[j]? = some p -> (t, r) ∈ p.2 -> freshE ops t j 0 prs = true /\ (freshS t A.sl = true /\ qK7 t A.rs = true) := fun j p t r hj hm => by
  obtain ⟨op, h1, h3, h4⟩ := hent j p hj
  obtain ⟨h5, h6, y, h7⟩ := h4 t r hm
  have e : p = ((t, y) :: [], p.2) := Prod.ext h7 rfl
  have := freshV1_ok hfr j t y [] p.2 (by rw [hj, <-e]) (.inr fun e' => by rw [e'] at hm; cases hm)
  rw [Nat.zero_add] at this
  exact ⟨this.1, this.2.1⟩
 let SL : (Nat -> Bool) -> List (Nat × SV) := fun ls => qB3 ls 0 (prs.map (·.1)) ++ A.sl
 let RS : (Nat -> Bool) -> List (Nat × Res) := fun ls => qB3 ls 0 (prs.map (·.2)) ++ A.rs
 have hSLin : ∀ (ls : Nat -> Bool) (j : Nat) (p : Ent) (t : Nat) (x : SV), prs[j]? = some p -> (t, x) ∈ p.1 -> ls j = true -> lk (SL ls) t = some x := fun ls j p t x hj hm hls => by
  refine pickL_in (k := 0) (i := j) (p := p.1) (by rw [List.getElem?_map, hj]; rfl) (by simpa using hls) ?_ fun j' q hne hq r' hm' => ?_
  ·obtain ⟨r, hr⟩ := lkA_of hm
   rw [hr, (huS j j p p t x r hj hj hm (lkM hr)).2]
  ·obtain ⟨p', h2, rfl⟩ := qY7 hq
   exact hne (huS j j' p p' t x r' hj h2 hm hm').1.symm
 have hSLout : ∀ (ls : Nat -> Bool) (t : Nat), (∀ (j : Nat) (p : Ent) (x : SV), prs[j]? = some p -> ls j = true -> (t, x) ∉ p.1) -> lk (SL ls) t = lk A.sl t := fun ls t hno =>
  pickL_out fun j q hq hls r hm => by
   obtain ⟨p', h2, rfl⟩ := qY7 hq
   exact hno j p' r h2 hls hm
 have hPMout : ∀ (ls : Nat -> Bool) (t : Nat), (∀ (j : Nat) (p : Ent) (x : Res), prs[j]? = some p -> ls j = true -> (t, x) ∉ p.2) -> lk (RS ls) t = lk A.rs t := fun ls t hno =>
  pickL_out fun j q hq hls r hm => by
   obtain ⟨p', h2, rfl⟩ := qY7 hq
   exact hno j p' r h2 hls hm
 have hPMbase : ∀ (ls : Nat -> Bool) (t : Nat) (r : Res), lk A.rs t = some r -> lk (RS ls) t = some r := fun ls t r hr => by
  rw [hPMout ls t fun j p x hj _ hm => ?_]
  ·exact hr
  ·exact (qX4 (hnew j p t x hj hm).2.2 (lk_mem hr)).1 rfl
 intro o0 w0 o h tm w hs hx0
 have main : ∀ (fuel : Nat) (L : Array Bool) (o' : Nat -> Tag) (h' : Nat -> Value) (tm' : Array Value) (w' : World), L ∈ S -> cntF L = fuel ->
   Sat o' h' ⟨A.n, SL (fun j => L.getD j false), RS (fun j => L.getD j false)⟩ tm' w' -> Ext o0 w0 o' w' -> wpAny P .any ops (kq P (lift Q o0 w0) k) fuel L ⟨tm', []⟩ w' := by
  intro fuel
  have fin : ∀ (f : Nat) (L : Array Bool) (o' : Nat -> Tag) (h' : Nat -> Value) (tm' : Array Value) (w' : World), L ∈ S -> Region.ready .any ops L = [] ->
    Sat o' h' ⟨A.n, SL (fun j => L.getD j false), RS (fun j => L.getD j false)⟩ tm' w' -> Ext o0 w0 o' w' -> wpAny P .any ops (kq P (lift Q o0 w0) k) f L ⟨tm', []⟩ w' := fun f L o' h' tm' w' hL hr hs' hx => by
   have hLd : L ∈ ds := by
    rw [<-hds, List.mem_filter]
    exact ⟨hL, by rw [hr]; rfl⟩
   exact wpAny_done hr (qB7 (qW2 hx) k .normal _ w' (hd L hLd o' h' tm' w' hs')) f
  induction fuel with
  | zero =>
    intro L o' h' tm' w' hL hcn hs' hx
    refine fin 0 L o' h' tm' w' hL ?_ hs' hx
    cases hr : Region.ready .any ops L with
    | nil => rfl
    | cons i l =>
      exfalso
      have := cntF_set (mem_ready.1 (hr ▸ List.mem_cons_self : i ∈ Region.ready .any ops L)).1
      omega
  | succ fuel ih =>
    intro L o' h' tm' w' hL hcn hs' hx
    by_cases hne0 : Region.ready .any ops L = []
    ·exact fin _ L o' h' tm' w' hL hne0 hs' hx
    have hck := hS1 L hL
    simp only [Bool.and_eq_true] at hck
    obtain ⟨⟨hsz, hcl0⟩, hrd⟩ := hck
    have hsz := Nat.eq_of_beq_eq_true hsz
    have hcl := closedL_ok hcl0
    rw [List.all_eq_true] at hrd
    refine wpAny_all rfl hne0 fun i hi => ?_
    obtain ⟨hun, op, hop', haft⟩ := mem_ready.1 hi
    have hlt : i < ops.size := (Array.getElem?_eq_some_iff.1 hop').1
    have hun' : L.getD i false = false := by
     rw [Array.getD_eq_getD_getElem?, Array.getElem?_eq_getElem (by omega)] at hun ⊢
     exact hun
    have hcn' : cntF (L.setIfInBounds i true) = fuel := by have := cntF_set hun; omega
    have h1 := hrd i hi
    rw [Bool.or_eq_true] at h1
    by_cases hic : i = c
    ·subst hic
     have hLc : L ∈ cs := by
      rw [<-hcs, List.mem_filter]
      exact ⟨hL, memN_of hi⟩
     obtain ⟨opc, hopc, hkc⟩ := hc L hLc
     have := wpOp_of hopc hkc hs' hx
     rw [hcn'] at this
     exact this
    ·have h2 : memN i F = true /\ inS S (L.setIfInBounds i true) = true := by
      rcases h1 with h1 | h1
      ·exact absurd (Nat.eq_of_beq_eq_true h1) hic
      ·simpa using h1
     obtain ⟨hiF, hin⟩ := h2
     have h1 := hop i op hop'
     rw [if_pos hiF] at h1
     obtain ⟨d, y, rn, ψ, g1, g2, g3, g4, g5⟩ := h1
     have hsl : ∀ t x, lk (qK8 (qV1 (prs.take i) ++ A.sl) (qW8 ops op)) t = some x -> lk (SL (fun j => L.getD j false)) t = some x := fun t x hl => by
      obtain ⟨e1, hm⟩ := pickS_lk hl
      by_cases hex : ∃ (j : Nat) (p : Ent) (y : SV), prs[j]? = some p /\ (t, y) ∈ p.1
      ·obtain ⟨j, p, y', hj, hy⟩ := hex
       obtain ⟨oj, hoj, hdj, _⟩ := hent j p hj
       rcases dep.look i j op oj t hop' hoj (hdj t y' hy).2.1 hm with ⟨hji, e, he, hb, heq⟩ | ⟨hij, e, he, hb, heq⟩
       ·have hlj : L.getD j false = true := by rw [<-heq]; exact haft e he hb
        rw [lkU (qW4.2 ⟨j, p, by rw [List.getElem?_take, if_pos hji]; exact hj, hy⟩) fun y'' hy'' => (by
         obtain ⟨j', p', hj', hm'⟩ := qW4.1 hy''
         rw [List.getElem?_take] at hj'
         split at hj'
         ·exact (huS j j' p p' t y' y'' hj hj' hy hm').2
         ·cases hj')] at e1
        cases e1
        exact hSLin _ j p t _ hj hy (by simpa using hlj)
       ·have hlj : L.getD j false = false := by
         cases hlj : L.getD j false with
         | false => rfl
         | true =>
           have := hcl j oj hoj hlj e he hb
           rw [heq, hun'] at this
           cases this
        rw [qX6 fun y'' hy'' => (by
         obtain ⟨j', p', hj', hm'⟩ := qW4.1 hy''
         rw [List.getElem?_take] at hj'
         split at hj'
         ·have := (huS j j' p p' t y' y'' hj hj' hy hm').1
          omega
         ·cases hj')] at e1
        rw [hSLout _ t fun j' p' x' hj' hls hm' => (by
         have := (huS j j' p p' t y' x' hj hj' hy hm').1
         subst this
         rw [hlj] at hls; cases hls)]
        exact e1
      ·rw [qX6 fun y'' hy'' => (by
        obtain ⟨j', p', hj', hm'⟩ := qW4.1 hy''
        rw [List.getElem?_take] at hj'
        split at hj'
        ·exact hex ⟨j', p', y'', hj', hm'⟩
        ·cases hj')] at e1
       rw [hSLout _ t fun j' p' x' hj' hls hm' => hex ⟨j', p', x', hj', hm'⟩]
       exact e1
     have hget : ∀ j, (L.setIfInBounds i true).getD j false = if j = i then true else L.getD j false := fun j => by
      by_cases hji : j = i
      ·subst hji
       rw [if_pos rfl, Array.getD_eq_getD_getElem?, Array.getElem?_setIfInBounds_self]
       simp [hsz, hlt]
      ·rw [if_neg hji, getD_set_ne false (Ne.symm hji)]
     have hfr' : rn ≠ [] -> qW9 ⟨A.n, SL (fun j => L.getD j false), RS (fun j => L.getD j false)⟩ d = true := fun hne => by
      obtain ⟨r, hr⟩ : ∃ r, (d, r) ∈ rn := by
       rcases stepZ_shape g2 g4 with e | ⟨r', e⟩
       ·exact absurd e hne
       ·exact ⟨r', by rw [e]; exact .head _⟩
      have hf := hnew i _ d r g1 hr
      refine fresh_super hf.2.1 hf.2.2 (fun t x hm => ?_) (fun t r' hm => ?_)
      ·obtain ⟨j, q, hj, hlj, hm'⟩ := qA2 hm
       obtain ⟨p', hj', rfl⟩ := qY7 hj
       exact menL_ok (qB8 hf.1 j p' hj' (by intro e; rw [Nat.zero_add] at e hlj; subst e; rw [hun'] at hlj; cases hlj) (by
        rw [Nat.zero_add] at hlj ⊢
        cases hbo : qJ8 ops j i with
        | false => rfl
        | true =>
          have := qW3 (ls := fun j => L.getD j false) hcl hbo hlj
          rw [hun'] at this; cases this)).1 t x hm'
      ·obtain ⟨j, q, hj, hlj, hm'⟩ := qA2 hm
       obtain ⟨p', hj', rfl⟩ := qY7 hj
       exact qX4 (qB8 hf.1 j p' hj' (by intro e; rw [Nat.zero_add] at e hlj; subst e; rw [hun'] at hlj; cases hlj) (by
        rw [Nat.zero_add] at hlj ⊢
        cases hbo : qJ8 ops j i with
        | false => rfl
        | true =>
          have := qW3 (ls := fun j => L.getD j false) hcl hbo hlj
          rw [hun'] at this; cases this)).2 hm'
     refine stepZ_wp hl hT hop' (A := ⟨A.n, SL (fun j => L.getD j false), RS (fun j => L.getD j false)⟩) (B := ⟨A.n, qK8 (qV1 (prs.take i) ++ A.sl) (qW8 ops op), A.rs⟩) ⟨rfl, fun t r hr => hPMbase _ t r hr, hsl⟩ hs' g2 g3 g4 g5 hfr' fun o2 h2 v w1 hs2 hext => ?_
     refine ih (L.setIfInBounds i true) o2 h2 _ w1 (inS_ok hin) hcn' ⟨hs2.size, hs2.tags, fun t x hlk => hs2.slot t x ?_, fun t r hlk => hs2.res t r ?_⟩ (hx.trans hext)
     ·exact qE0 (p := [(d, y)]) hapS (by rw [List.getElem?_map, g1]; rfl) (by simp [hget]) (fun j hj => by simp [hget, hj]) hlk
     ·exact qE0 (p := rn) hapM (by rw [List.getElem?_map, g1]; rfl) (by simp [hget]) (fun j hj => by simp [hget, hj]) hlk
 have hl0 : ∀ (j : Nat), memN j F = true -> l0.getD j false = false := fun j hj => by
  have := hF0 j (memN_yes hj)
  simpa using this
 have e1 : SL (fun j => l0.getD j false) = A.sl := by
  show qB3 _ 0 _ ++ A.sl = _
  rw [pickL_nil fun j q hj hls => ?_]
  ·rfl
  ·obtain ⟨p, h1, rfl⟩ := qY7 hj
   obtain ⟨op, h2, h3, h4⟩ := hent j p h1
   cases hp : p.1 with
   | nil => rfl
   | cons a l =>
     have := (h3 a.1 a.2 (by rw [hp]; exact .head _)).1
     rw [Nat.zero_add] at hls
     rw [hl0 j this] at hls; cases hls
 have e2 : RS (fun j => l0.getD j false) = A.rs := by
  show qB3 _ 0 _ ++ A.rs = _
  rw [pickL_nil fun j q hj hls => ?_]
  ·rfl
  ·obtain ⟨p, h1, rfl⟩ := qY7 hj
   obtain ⟨op, h2, h3, h4⟩ := hent j p h1
   cases hp : p.2 with
   | nil => rfl
   | cons a l =>
     have := (h4 a.1 a.2 (by rw [hp]; exact .head _)).1
     rw [Nat.zero_add] at hls
     rw [hl0 j this] at hls; cases hls
 refine main (cntF l0) l0 o h tm w (inS_ok hS0) rfl ?_ hx0
 rw [e1, e2]
 exact hs
theorem KW.phases {k k' : List K} {e : Exit} (hl : qJ1 P lay) (hT : FnsOk P fns) (hm : P.follows .mixedOrders = true) (f : Nat) {id : Nat} {ops : Array Oper} {φ : Prop} (h : run2 lay fns f k e A True = (.code (.region id ops true) :: k', .normal, A', φ)) (hφ : φ)
  (hn : KA P ops k' Q (cntF (Array.replicate ops.size false)) (Array.replicate ops.size false) A') : KW P k e A Q := by
 refine KW.go hl hT f h hφ (KW.orders hm ?_)
 have : cntF (Array.replicate ops.size false) = ops.size := by simp [cntF, Array.toList_replicate, List.countP_replicate]
 rwa [this] at hn
theorem KW.skipD {k : List K} {all : Array Oper} {op : Oper} {rest : List Oper} {j : Nat} {want b : Bool} {d : Nat} (x : EV) (hg : op.guard = some (j, want)) (hb : gdOf A all j want = some b) (hf : b = false) (hd : op.dst = some d) (hlt : Nat.blt d A.n = true)
  (hn : KW P (.ops all rest :: k) .normal ⟨A.n, (d, .e (.gd b x)) :: A.sl, A.rs⟩ Q) : KW P (.ops all (op :: rest) :: k) .normal A Q := by
 intro o h tm w hs
 show wpList P all (kq P (lift Q o w) k) (op :: rest) ⟨tm, []⟩ w
 unfold wpList
 have hput : ∀ v, (⟨tm, []⟩ : Act).put op.dst v = ⟨tm.setIfInBounds d v, []⟩ := fun v => by simp [Act.put, hd]
 have hy := gdOf_false hs hb hf
 rw [if_neg (by simp [Region.wanted, hg, hy])]
 show wpList P all (kq P (lift Q o w) k) rest ((⟨tm, []⟩ : Act).put op.dst undef) w
 rw [hput]
 exact hn o h _ w (hs.put (by simpa [Nat.blt, Nat.succ_le_iff] using hlt) (v := undef) ⟨fun e => absurd (hf.symm.trans e) Bool.false_ne_true, fun _ => rfl⟩)
end
end Go.Sy
end
section
namespace Go.Sy
open Go.Pu
variable [Drw]
def leavesC (xs : List LeafP) : CV := rows 3 leafC leaf0 xs
end Go.Sy
namespace Go.Proofs.YtgoilpfpmbjegaaGreatDoor.Tr
open Go.Sy Go.Pu
variable [Drw]
abbrev ckR (c vars : Int) (b : Nat) : List (Nat × Res) := [(0, .box 142 [iV c, iV vars] (some b))]
theorem node_does (vars : Int) (h24 : vars ≤ 24) (t : Tr) : ∀ (a c : Int) (b : Nat), 0 ≤ c -> c ≤ 4096 -> DoesF Tryz.prog 103 [.r 0, trV t, iV a] (ckR c vars b) (.e (eV (chkT vars t a c).2)) (ckR (chkT vars t a c).1 vars b) := by
 induction t using Tr.ind with
 | h t ih =>
   intro a c b h0 h1
   rw [chkT_eq]
   refine DoesF.body _ Tryz.func103 rfl rfl rfl rfl ?_
   refine KW.open 1 t rfl ?_
   refine KW.goIf qQ0 qJ4 100 rfl (by simp [inK]; omega) rfl trivial (fun h => ?_) fun h => ?_
   ·have hc : 4096 < c + 1 := by simpa using h
    have e : (if t.n = 2 then chkTN vars t (chkT vars (t.k 0)) (chkT vars (t.k 1)) else chkTL t) a c = (c + 1, 4) := by
     split <;> simp [chkTN, chkTL, hc]
    rw [e]
    exact KW.goRetR qQ0 qJ4 100 rfl [(0, 0)] rfl rfl rfl (by simp) (by exact ⟨rfl, trivial⟩)
   have hc : ¬ 4096 < c + 1 := by simpa using h
   refine KW.goIf qQ0 qJ4 100 rfl (by simp) rfl trivial (fun h => ?_) fun h => ?_
   ·have h2 : t.n ≠ 0 /\ t.n ≠ 2 := by simp at h; omega
    rw [if_neg h2.2, show chkTL t a c = (c + 1, 11) by simp [chkTL, hc, h2.1]]
    exact KW.goRetR qQ0 qJ4 100 rfl [(0, 0)] rfl rfl rfl (by simp) (by exact ⟨rfl, trivial⟩)
   have h2 : t.n = 0 ∨ t.n = 2 := by simp at h; omega
   refine KW.goIf qQ0 qJ4 100 rfl (by simp) rfl trivial (fun h => ?_) fun h => ?_
   ·have h3 : t.n = 0 := by simpa using h
    rw [if_neg (by omega)]
    refine KW.goIf qQ0 qJ4 100 rfl (by simp) rfl trivial (fun h => ?_) fun h => ?_
    ·have h4 : t.v ≠ 0 := by simpa using h
     rw [show chkTL t a c = (c + 1, 2) by simp [chkTL, hc, h3, h4]]
     exact KW.goRetR qQ0 qJ4 100 rfl [(0, 0)] rfl rfl rfl (by simp) (by exact ⟨rfl, trivial⟩)
    ·have h4 : t.v = 0 := by simpa using h
     rw [show chkTL t a c = (c + 1, 0) by simp [chkTL, hc, h3, h4]]
     exact KW.goRetR qQ0 qJ4 100 rfl [(0, 0)] rfl rfl rfl (by simp) (by exact ⟨rfl, trivial⟩)
   have h3 : t.n = 2 := by simp at h; omega
   rw [if_pos h3]
   unfold chkTN
   rw [if_neg hc]
   refine KW.goD qQ0 qJ4 rfl 100 rfl (by decide +kernel) rfl (by simp) (by simp) ?_
   refine KW.goIf qQ0 qJ4 100 rfl (by simp) rfl trivial (fun h => ?_) fun h => ?_
   ·have h4 : t.v < 0 ∨ vars ≤ t.v := by simp at h; omega
    rw [if_pos h4]
    exact KW.goRetR qQ0 qJ4 100 rfl [(0, 0)] rfl rfl rfl (by simp) (by exact ⟨rfl, trivial⟩)
   have h4 : ¬ (t.v < 0 ∨ vars ≤ t.v) := by simp at h; omega
   rw [if_neg h4]
   refine KW.goIf qQ0 qJ4 100 rfl (by simp [qC0]; omega) rfl trivial (fun h => ?_) fun h => ?_
   ·have h5 : bitB a t.v = true := h
    rw [if_pos h5]
    exact KW.goRetR qQ0 qJ4 100 rfl [(0, 0)] rfl rfl rfl (by simp) (by exact ⟨rfl, trivial⟩)
   have h5 : ¬ bitB a t.v = true := by rw [show bitB a t.v = false from h]; decide
   rw [if_neg h5]
   refine KW.goIf qQ0 qJ4 100 rfl (by simp) rfl trivial (fun h => ?_) fun h => ?_
   ·have h6 : t.r ≠ 0 := by simpa using h
    rw [if_pos h6]
    exact KW.goRetR qQ0 qJ4 100 rfl [(0, 0)] rfl rfl rfl (by simp) (by exact ⟨rfl, trivial⟩)
   have h6 : ¬ t.r ≠ 0 := by simpa using h
   rw [if_neg h6]
   have ih0 := ih 0 (by omega) (ior .i64 a (qW0 1 t.v))
   have ih1 := ih 1 (by omega) (ior .i64 a (qW0 1 t.v))
   have l0 := chkT_lt vars (t.k 0) (ior .i64 a (qW0 1 t.v)) (c + 1) (by omega)
   have one := shl_rng24 (v := t.v) (by omega) (by omega)
   generalize hX : chkT vars (t.k 0) (ior .i64 a (qW0 1 t.v)) (c + 1) = X at *
   refine KW.goLpR qQ0 qJ4 100 rfl (I := fun q : Nat × Int => ⟨Tryz.f103.ntmps, [(0, .e (.r 0)), (2, sI a), (4, .e (.r 4)), (73, .e (.c t.ksx)), (74, sI t.n), (75, sI q.1)], [(0, .box 142 [iV q.2, iV vars] (some b)), (4, .box 31 [iV t.v, .c t.ksx, iV t.r] none)]⟩)
    (R := fun q => (q.1 = 0 /\ q.2 = c + 1) ∨ (q.1 = 1 /\ X.2 = 0 /\ q.2 = X.1) ∨ (q.1 = 2 /\ X.2 = 0 /\ chkT vars (t.k 1) (ior .i64 a (qW0 1 t.v)) X.1 = (q.2, 0))) (m := fun q => 2 - q.1) (0, c + 1) [(0, 0), (4, 4)] rfl rfl ⟨rfl, rfl, rfl, rfl, rfl, rfl, trivial⟩ (by simp) (.inl ⟨rfl, rfl⟩) (by exact ⟨rfl, rfl, trivial⟩) ?_
   rintro ⟨q, d⟩ hq
   simp only at hq
   refine KW.goIf qQ0 qJ4 100 rfl (by simp) rfl trivial (fun h => ?_) fun h => ?_
   ·have hq2 : q < 2 := by rw [h3] at h; simp at h; omega
    have hck : (q = 0 /\ d = c + 1) ∨ (q = 1 /\ X.2 = 0 /\ d = X.1) := by omega
    have hd : 0 ≤ d /\ d ≤ 4096 := by rcases hck with ⟨_, e⟩ | ⟨_, e, e'⟩ <;> omega
    have hk : ∃ i, i < t.n /\ q = i := ⟨q, by omega, rfl⟩
    refine KW.goDS qQ0 qJ4 rfl 100 rfl 7 rfl (by decide +kernel) (by decide +kernel) rfl (by simp; omega) (by simp [inK, qC0]; omega) ?_
    rcases hck with ⟨rfl, rfl⟩ | ⟨rfl, hX0, rfl⟩
    ·have D := ih0 (c + 1) b (by omega) (by omega)
     rw [hX] at D
     refine KW.call0 D (qQ9 Tryz.func103 rfl rfl) [(0, 0)] [(0, 0)] [] (.inl rfl) rfl rfl rfl rfl rfl trivial
      ⟨⟨_, _, rfl, trivial, (show Mt _ _ _ (EV.ren [(0, 0)] (.r 0)) (.r 0) from .same)⟩, ⟨_, _, rfl, trivial, (show Mt _ _ _ (EV.ren [(0, 0)] (trV (t.k 0))) (trV (t.k 0)) from .same)⟩, ⟨_, _, rfl, trivial, .conv (CVEq.refl _)⟩, trivial⟩ rfl ⟨rfl, trivial⟩ rfl ⟨.inr ⟨rfl, .inr ⟨_, _, _, _, b, rfl, rfl⟩⟩, trivial⟩ rfl rfl (.inl rfl) ?_
     refine KW.goIf qQ0 qJ4 100 rfl (by simp) rfl trivial (fun h => ?_) fun h => ?_
     ·have h7 : X.2 ≠ 0 := by simpa using h
      rw [if_pos h7]
      refine KW.goOutR qQ0 qJ4 100 rfl (by simp) ?_
      exact KW.goRetR qQ0 qJ4 100 rfl [(0, 0)] rfl rfl rfl (by simp) (by exact ⟨rfl, trivial⟩)
     ·have h7 : X.2 = 0 := by simpa using h
      exact KW.goToR qQ0 qJ4 100 rfl (1, X.1) [(0, 0), (4, 4)] rfl rfl ⟨rfl, rfl, rfl, rfl, rfl, rfl, trivial⟩ (by simp [inK]) ⟨.inr (.inl ⟨rfl, h7, rfl⟩), by simp only; omega⟩ ⟨rfl, rfl, trivial⟩
    ·have D := ih1 X.1 b (by omega) (by omega)
     have l1 := chkT_lt vars (t.k 1) (ior .i64 a (qW0 1 t.v)) X.1 (by omega)
     rw [if_neg (fun e => e hX0)]
     generalize hY : chkT vars (t.k 1) (ior .i64 a (qW0 1 t.v)) X.1 = Y at *
     refine KW.call0 D (qQ9 Tryz.func103 rfl rfl) [(0, 0)] [(0, 0)] [] (.inl rfl) rfl rfl rfl rfl rfl trivial
      ⟨⟨_, _, rfl, trivial, (show Mt _ _ _ (EV.ren [(0, 0)] (.r 0)) (.r 0) from .same)⟩, ⟨_, _, rfl, trivial, (show Mt _ _ _ (EV.ren [(0, 0)] (trV (t.k 1))) (trV (t.k 1)) from .same)⟩, ⟨_, _, rfl, trivial, .conv (CVEq.refl _)⟩, trivial⟩ rfl ⟨rfl, trivial⟩ rfl ⟨.inr ⟨rfl, .inr ⟨_, _, _, _, b, rfl, rfl⟩⟩, trivial⟩ rfl rfl (.inl rfl) ?_
     refine KW.goIf qQ0 qJ4 100 rfl (by simp) rfl trivial (fun h => ?_) fun h => ?_
     ·have h7 : Y.2 ≠ 0 := by simpa using h
      refine KW.goOutR qQ0 qJ4 100 rfl (by simp) ?_
      exact KW.goRetR qQ0 qJ4 100 rfl [(0, 0)] rfl rfl rfl (by simp) (by exact ⟨rfl, trivial⟩)
     ·have h7 : Y.2 = 0 := by simpa using h
      exact KW.goToR qQ0 qJ4 100 rfl (2, Y.1) [(0, 0), (4, 4)] rfl rfl ⟨rfl, rfl, rfl, rfl, rfl, rfl, trivial⟩ (by simp [inK]) ⟨.inr (.inr ⟨rfl, hX0, Prod.ext rfl h7⟩), by simp only; omega⟩ ⟨rfl, rfl, trivial⟩
   ·have hq2 : 2 ≤ q := by rw [h3] at h; simp at h; omega
    obtain ⟨rfl, hX0, hY⟩ : q = 2 /\ X.2 = 0 /\ chkT vars (t.k 1) (ior .i64 a (qW0 1 t.v)) X.1 = (d, 0) := by
     rcases hq with hq | hq | hq
     ·omega
     ·omega
     ·exact hq
    rw [if_neg (fun e => e hX0), hY]
    refine KW.goOut qQ0 qJ4 100 rfl (by simp) ?_
    exact KW.goRetR qQ0 qJ4 100 rfl [(0, 0)] rfl rfl rfl (by simp) (by exact ⟨rfl, trivial⟩)
theorem check_does (t : Tr) (vars : Int) : DoesF Tryz.prog 67 [trV t, iV vars] [] (.e (eV (splE t vars))) [] := by
 refine DoesF.body _ Tryz.func67 rfl rfl rfl rfl ?_
 unfold splE
 refine KW.goIf qQ0 qJ4 100 rfl (by simp) rfl trivial (fun h => ?_) fun h => ?_
 ·have h1 : vars < 0 ∨ 24 < vars := by simp at h; omega
  rw [if_pos h1]
  exact KW.goRet qQ0 qJ4 100 rfl rfl rfl (by simp) trivial
 ·have h1 : ¬ (vars < 0 ∨ 24 < vars) := by simp at h; omega
  rw [if_neg h1]
  refine KW.go qQ0 qJ4 100 rfl (by simp) ?_
  refine KW.name 5 rfl fun b => ?_
  refine KW.call0 (node_does vars (by omega) t 0 0 b (by omega) (by omega)) (qQ9 Tryz.func103 rfl rfl) [(0, 5)] [(0, 5)] [] (.inl rfl) rfl rfl rfl rfl rfl trivial
   ⟨⟨_, _, rfl, trivial, (show Mt _ _ _ (EV.ren [(0, 5)] (.r 0)) (.r 0) from .same)⟩, ⟨_, _, rfl, trivial, (show Mt _ _ _ (EV.ren [(0, 5)] (trV t)) (trV t) from .same)⟩, ⟨_, _, rfl, trivial, .conv (CVEq.refl _)⟩, trivial⟩ rfl ⟨rfl, trivial⟩ rfl ⟨.inr ⟨rfl, .inr ⟨_, _, _, _, b, rfl, rfl⟩⟩, trivial⟩ rfl rfl (.inl rfl) ?_
  exact KW.goRet qQ0 qJ4 100 rfl rfl rfl (by simp) trivial
theorem walk_does (vars : Int) (h24 : vars ≤ 24) (t : Tr) : ∀ (a c : Int), 0 ≤ c -> c ≤ 4096 -> DoesF Tryz.prog 92 [trV t, iV vars, iV a, iV c] [] (.tup [iV (chkT vars t a c).1, iV (chkT vars t a c).2]) [] := by
 induction t using Tr.ind with
 | h t ih =>
   intro a c h0 h1
   have T_ok : FnsOk Tryz.prog ((92, fTIII (fun t' v' a' c' => .tup [iV (chkT vars t' a' c').1, iV (chkT vars t' a' c').2]) fun t' v' a' c' => (∃ i, i < t.n /\ t' = t.k i) /\ v' = vars /\ 0 ≤ c' /\ c' ≤ 4096) :: T9) :=
    .cons qJ4 Tryz.func92 rfl rfl (fTIII_ok fun t' v' a' c' h => by
     obtain ⟨⟨i, hi, rfl⟩, rfl, h3, h4⟩ := h
     exact ih i hi a' c' h3 h4)
   rw [chkT_eq]
   refine DoesF.body _ Tryz.func92 rfl rfl rfl rfl ?_
   refine KW.open 0 t rfl ?_
   refine KW.goIf qQ0 T_ok 100 rfl (by simp [inK]; omega) rfl trivial (fun h => ?_) fun h => ?_
   ·have hc : 4096 < c + 1 := by simpa using h
    have e : (if t.n = 2 then chkTN vars t (chkT vars (t.k 0)) (chkT vars (t.k 1)) else chkTL t) a c = (c + 1, 4) := by
     split <;> simp [chkTN, chkTL, hc]
    rw [e]
    exact KW.goRet qQ0 T_ok 100 rfl rfl rfl (by simp) trivial
   have hc : ¬ 4096 < c + 1 := by simpa using h
   refine KW.goIf qQ0 T_ok 100 rfl (by simp) rfl trivial (fun h => ?_) fun h => ?_
   ·have h2 : t.n ≠ 0 /\ t.n ≠ 2 := by simp at h; omega
    rw [if_neg h2.2, show chkTL t a c = (c + 1, 11) by simp [chkTL, hc, h2.1]]
    exact KW.goRet qQ0 T_ok 100 rfl rfl rfl (by simp) trivial
   have h2 : t.n = 0 ∨ t.n = 2 := by simp at h; omega
   refine KW.goIf qQ0 T_ok 100 rfl (by simp) rfl trivial (fun h => ?_) fun h => ?_
   ·have h3 : t.n = 0 := by simpa using h
    rw [if_neg (by omega)]
    refine KW.goIf qQ0 T_ok 100 rfl (by simp) rfl trivial (fun h => ?_) fun h => ?_
    ·have h4 : t.v ≠ 0 := by simpa using h
     rw [show chkTL t a c = (c + 1, 2) by simp [chkTL, hc, h3, h4]]
     exact KW.goRet qQ0 T_ok 100 rfl rfl rfl (by simp) trivial
    ·have h4 : t.v = 0 := by simpa using h
     rw [show chkTL t a c = (c + 1, 0) by simp [chkTL, hc, h3, h4]]
     exact KW.goRet qQ0 T_ok 100 rfl rfl rfl (by simp) trivial
   have h3 : t.n = 2 := by simp at h; omega
   rw [if_pos h3]
   unfold chkTN
   rw [if_neg hc]
   refine KW.goIf qQ0 T_ok 100 rfl (by simp) rfl trivial (fun h => ?_) fun h => ?_
   ·have h4 : t.v < 0 ∨ vars ≤ t.v := by simp at h; omega
    rw [if_pos h4]
    exact KW.goRet qQ0 T_ok 100 rfl rfl rfl (by simp) trivial
   have h4 : ¬ (t.v < 0 ∨ vars ≤ t.v) := by simp at h; omega
   rw [if_neg h4]
   refine KW.goIf qQ0 T_ok 100 rfl (by simp [qC0]; omega) rfl trivial (fun h => ?_) fun h => ?_
   ·have h5 : bitB a t.v = true := h
    rw [if_pos h5]
    exact KW.goRet qQ0 T_ok 100 rfl rfl rfl (by simp) trivial
   have h5 : ¬ bitB a t.v = true := by rw [show bitB a t.v = false from h]; decide
   rw [if_neg h5]
   refine KW.goIf qQ0 T_ok 100 rfl (by simp) rfl trivial (fun h => ?_) fun h => ?_
   ·have h6 : t.r ≠ 0 := by simpa using h
    rw [if_pos h6]
    exact KW.goRet qQ0 T_ok 100 rfl rfl rfl (by simp) trivial
   have h6 : ¬ t.r ≠ 0 := by simpa using h
   rw [if_neg h6]
   have l0 := chkT_lt vars (t.k 0) (ior .i64 a (qW0 1 t.v)) (c + 1) (by omega)
   have one := shl_rng24 (v := t.v) (by omega) (by omega)
   generalize hX : chkT vars (t.k 0) (ior .i64 a (qW0 1 t.v)) (c + 1) = X at *
   refine KW.goLpR qQ0 T_ok 100 rfl (I := fun q : Nat × Int => ⟨Tryz.f92.ntmps, [(1, sI vars), (2, sI a), (3, sI q.2), (4, .e (.r 4)), (61, .e (.c t.ksx)), (62, sI t.n), (63, sI q.1)], [(4, .box 31 [iV t.v, .c t.ksx, iV t.r] none)]⟩)
    (R := fun q => (q.1 = 0 /\ q.2 = c + 1) ∨ (q.1 = 1 /\ X.2 = 0 /\ q.2 = X.1) ∨ (q.1 = 2 /\ X.2 = 0 /\ chkT vars (t.k 1) (ior .i64 a (qW0 1 t.v)) X.1 = (q.2, 0))) (m := fun q => 2 - q.1) (0, c + 1) [(4, 4)] rfl rfl ⟨rfl, rfl, rfl, rfl, rfl, rfl, rfl, trivial⟩ (by simp) (.inl ⟨rfl, rfl⟩) (by exact ⟨rfl, trivial⟩) ?_
   rintro ⟨q, d⟩ hq
   simp only at hq
   refine KW.goIf qQ0 T_ok 100 rfl (by simp) rfl trivial (fun h => ?_) fun h => ?_
   ·have hq2 : q < 2 := by rw [h3] at h; simp at h; omega
    have hck : (q = 0 /\ d = c + 1) ∨ (q = 1 /\ X.2 = 0 /\ d = X.1) := by omega
    have hd : 0 ≤ d /\ d ≤ 4096 := by rcases hck with ⟨_, e⟩ | ⟨_, e, e'⟩ <;> omega
    have hk : ∃ i, i < t.n /\ t.k q = t.k i := ⟨q, by omega, rfl⟩
    refine KW.goD qQ0 T_ok rfl 100 rfl (by decide +kernel) rfl (by simp; omega) ?_ ?_
    ·simp only [Int.toNat_natCast, Nat.zero_add, Tr.cell_1, qZ7, isKs_ks, true_and, and_true, inK, qC0]
     exact ⟨by omega, hk, by omega⟩
    rcases hck with ⟨rfl, rfl⟩ | ⟨rfl, hX0, rfl⟩
    ·simp only [Int.toNat_natCast, Nat.zero_add, Tr.cell_1, qZ7, hX]
     refine KW.goIf qQ0 T_ok 100 rfl (by simp) rfl trivial (fun h => ?_) fun h => ?_
     ·have h7 : X.2 ≠ 0 := by simpa using h
      rw [if_pos h7]
      refine KW.goOutR qQ0 T_ok 100 rfl (by simp) ?_
      exact KW.goRet qQ0 T_ok 100 rfl rfl rfl (by simp) trivial
     ·have h7 : X.2 = 0 := by simpa using h
      exact KW.goToR qQ0 T_ok 100 rfl (1, X.1) [(4, 4)] rfl rfl ⟨rfl, rfl, rfl, rfl, rfl, rfl, rfl, trivial⟩ (by simp [inK]) ⟨.inr (.inl ⟨rfl, h7, rfl⟩), by simp only; omega⟩ ⟨rfl, trivial⟩
    ·have l1 := chkT_lt vars (t.k 1) (ior .i64 a (qW0 1 t.v)) X.1 (by omega)
     rw [if_neg (fun e => e hX0)]
     generalize hY : chkT vars (t.k 1) (ior .i64 a (qW0 1 t.v)) X.1 = Y at *
     simp only [Int.toNat_natCast, Nat.zero_add, Tr.cell_1, qZ7, hY]
     refine KW.goIf qQ0 T_ok 100 rfl (by simp) rfl trivial (fun h => ?_) fun h => ?_
     ·have h7 : Y.2 ≠ 0 := by simpa using h
      refine KW.goOutR qQ0 T_ok 100 rfl (by simp) ?_
      exact KW.goRet qQ0 T_ok 100 rfl rfl rfl (by simp) trivial
     ·have h7 : Y.2 = 0 := by simpa using h
      exact KW.goToR qQ0 T_ok 100 rfl (2, Y.1) [(4, 4)] rfl rfl ⟨rfl, rfl, rfl, rfl, rfl, rfl, rfl, trivial⟩ (by simp [inK]) ⟨.inr (.inr ⟨rfl, hX0, Prod.ext rfl h7⟩), by simp only; omega⟩ ⟨rfl, trivial⟩
   ·have hq2 : 2 ≤ q := by rw [h3] at h; simp at h; omega
    obtain ⟨rfl, hX0, hY⟩ : q = 2 /\ X.2 = 0 /\ chkT vars (t.k 1) (ior .i64 a (qW0 1 t.v)) X.1 = (d, 0) := by
     rcases hq with hq | hq | hq
     ·omega
     ·omega
     ·exact hq
    rw [if_neg (fun e => e hX0), hY]
    refine KW.goOut qQ0 T_ok 100 rfl (by simp) ?_
    exact KW.goRet qQ0 T_ok 100 rfl rfl rfl (by simp) trivial
def U1 : Fns := (67, fTI (fun t v => .e (eV (splE t v))) fun _ _ => True) ::
 (92, fTIII (fun t v a c => .tup [iV (chkT v t a c).1, iV (chkT v t a c).2]) fun t v a c => v ≤ 24 /\ 0 ≤ c /\ c ≤ 4096) ::
 T9
theorem U1_ok : FnsOk Tryz.prog U1 := .cons (.cons (qJ4) Tryz.func92 rfl rfl (fTIII_ok fun t v a c h => walk_does v h.1 t a c h.2.1 h.2.2)) Tryz.func67 rfl rfl (fTI_ok fun t v _ => check_does t v)
theorem rcheck_does (t : Tr) (vars : Int) : DoesF Tryz.prog 52 [trV t, iV vars] [] (sI (splE t vars)) [] := by
 refine DoesF.body _ Tryz.func52 rfl rfl rfl rfl ?_
 unfold splE
 refine KW.goIf qQ0 U1_ok 100 rfl (by simp) rfl trivial (fun h => ?_) fun h => ?_
 ·have h1 : vars < 0 ∨ 24 < vars := by simp at h; omega
  rw [if_pos h1]
  exact KW.goRet qQ0 U1_ok 100 rfl rfl rfl (by simp) trivial
 ·have h1 : ¬ (vars < 0 ∨ 24 < vars) := by simp at h; omega
  rw [if_neg h1]
  refine KW.goRet qQ0 U1_ok 100 rfl rfl ?_ (by simp; omega) trivial
  simp [SV.ren, EV.ren]
def U2 : Fns := (52, fTI (fun t v => sI (splE t v)) fun _ _ => True) ::
 U1
theorem U2_ok : FnsOk Tryz.prog U2 := .cons (U1_ok) Tryz.func52 rfl rfl (fTI_ok fun t v _ => rcheck_does t v)
end Go.Proofs.YtgoilpfpmbjegaaGreatDoor.Tr
end
section
namespace Go.Proofs.YtgoilpfpmbjegaaGreatDoor.Tr
open Go.Sy Go.Pu
variable [Drw]
theorem gT_kids {t : Tr} (h : gT t) (h2 : t.n ≠ 0) : t.n = 2 /\ 0 ≤ t.v /\ t.v < 24 /\ t.r = 0 /\ gT (t.k 0) /\ gT (t.k 1) := by
 rw [gT_eq] at h
 split at h
 ·exact ⟨‹_›, h⟩
 ·exact absurd h.1 h2
def kidOf (t t' : Tr) : Prop := t' = t.k 0 ∨ t' = t.k 1
@[simp] theorem kid0 (t : Tr) : kidOf t (t.k 0) := .inl rfl
@[simp] theorem kid1 (t : Tr) : kidOf t (t.k 1) := .inr rfl
theorem two_rows (v : Int) (a b : Tr) : CVEq (rowsC 3 2 (trC a ++ trC b)) (Tr.two v a b).ks :=
 ⟨rfl, .inr ⟨rfl, fun e q he hq => by
  rw [Tr.kf_eq (t := Tr.two v a b) he]
  match e, he, q, hq with
  | 0, _, 0, _ => exact CVEq.refl _
  | 0, _, 1, _ => exact CVEq.refl _
  | 0, _, 2, _ => exact CVEq.refl _
  | 1, _, 0, _ => exact CVEq.refl _
  | 1, _, 1, _ => exact CVEq.refl _
  | 1, _, 2, _ => exact CVEq.refl _⟩⟩
def U3 : Fns := U2
theorem U3_ok : FnsOk Tryz.prog U3 := U2_ok
theorem splE_g {t : Tr} {vars : Int} (h : splE t vars = 0) : gT t /\ cntN t ≤ 4096 := by
 obtain ⟨h1, h2, h3, h4⟩ := splE_ok h
 exact ⟨okT_gT h2 h3, h4⟩
end Go.Proofs.YtgoilpfpmbjegaaGreatDoor.Tr
end
section
namespace Go.Pu
open Go.Sy
variable [Drw]
def sameT : Tr -> Tr -> Bool
 | .nd v r n f => fun b => decide (v = b.v) && decide (r = b.r) && decide (n = b.n) && (List.ofFn fun i : Fin n => sameT (f i) (b.k i)).all id
theorem sameT_iff (a : Tr) : ∀ b : Tr, sameT a b = true ↔ a = b := by
 induction a with
 | nd v r n f ih =>
   intro b
   rw [sameT]
   simp only [Bool.and_eq_true, decide_eq_true_eq, List.all_eq_true, List.mem_ofFn, id_eq]
   constructor
   ·rintro ⟨⟨⟨h1, h2⟩, h3⟩, h4⟩
    refine Tr.ext h1 h2 h3 fun i hi => ?_
    have hi' : i < n := hi
    have h5 := (ih ⟨i, hi'⟩ _).1 (h4 _ ⟨⟨i, hi'⟩, rfl⟩)
    simpa [Tr.k, hi'] using h5
   ·rintro rfl
    refine ⟨⟨⟨rfl, rfl⟩, rfl⟩, ?_⟩
    rintro x ⟨i, rfl⟩
    refine (ih i _).2 ?_
    simp [Tr.k, i.2]
@[simp] theorem sameT_self (a : Tr) : sameT a a = true := (sameT_iff a a).2 rfl
theorem sameT_no {a b : Tr} (h : a ≠ b) : sameT a b = false := by
 cases hb : sameT a b with
 | false => rfl
 | true => exact absurd ((sameT_iff a b).1 hb) h
end Go.Pu
namespace Go.Proofs.YtgoilpfpmbjegaaGreatDoor.Tr
open Go.Sy Go.Pu
variable [Drw]
theorem same_does (a : Tr) : ∀ b : Tr, DoesF Tryz.prog 59 [trV a, trV b] [] (sB (sameT a b)) [] := by
 induction a using Tr.ind with
 | h a ih =>
   intro b
   have T_ok : FnsOk Tryz.prog ((59, fTT (fun a' b' => sB (sameT a' b')) fun a' _ => ∃ i, i < a.n /\ a' = a.k i) :: U3) := by
    refine .cons U3_ok Tryz.func59 rfl rfl (fTT_ok fun a' b' h => ?_)
    obtain ⟨i, hi, rfl⟩ := h
    exact ih i hi b'
   refine DoesF.body _ Tryz.func59 rfl rfl rfl rfl ?_
   refine KW.lenT 0 a rfl fun han => ?_
   refine KW.open 0 a rfl ?_
   refine KW.open 1 b rfl ?_
   refine KW.goIf qQ0 T_ok 100 rfl (by simp) rfl trivial (fun h => ?_) fun h => ?_
   ·have hne : a ≠ b := by rintro rfl; simp at h
    refine KW.goRet qQ0 T_ok 100 rfl rfl ?_ (by simp) trivial
    rw [sameT_no hne]; rfl
   ·have h3 : a.v = b.v /\ a.r = b.r /\ a.n = b.n := by simp at h; omega
    refine KW.goLpR qQ0 T_ok 100 rfl (I := fun q : Nat => ⟨Tryz.f59.ntmps, [(2, .e (.r 2)), (3, .e (.r 3)), (29, sI a.n), (30, sI q)], [(2, .box 31 [iV a.v, .c a.ksx, iV a.r] none), (3, .box 31 [iV b.v, .c b.ksx, iV b.r] none)]⟩)
     (R := fun q => q ≤ a.n /\ ∀ i, i < q -> a.k i = b.k i) (m := fun q => a.n - q) 0 [(2, 2), (3, 3)] rfl rfl ⟨rfl, rfl, rfl, rfl, trivial⟩ (by simp) ⟨Nat.zero_le _, fun i hi => by omega⟩ (by exact ⟨rfl, rfl, trivial⟩) ?_
    rintro q ⟨h1, h2⟩
    refine KW.goIf qQ0 T_ok 100 rfl (by simp) rfl trivial (fun h => ?_) fun h => ?_
    ·have hq : q < a.n := by simpa using h
     refine KW.goD qQ0 T_ok rfl 100 rfl (by decide +kernel) rfl (by simp) ?_ ?_
     ·simp only [Int.toNat_natCast, Nat.zero_add, Tr.cell_1, qZ7, isKs_ks, true_and, and_true]
      exact ⟨by omega, q, hq, rfl⟩
     simp only [Int.toNat_natCast, Nat.zero_add, Tr.cell_1, qZ7]
     refine KW.goIf qQ0 T_ok 100 rfl (by simp) rfl trivial (fun h => ?_) fun h => ?_
     ·have hne : a ≠ b := by rintro rfl; simp at h
      refine KW.goOutR qQ0 T_ok 100 rfl (by simp) ?_
      refine KW.goRet qQ0 T_ok 100 rfl rfl ?_ (by simp) trivial
      rw [sameT_no hne]; rfl
     ·have he : a.k q = b.k q := (sameT_iff _ _).1 (by simpa using h)
      refine KW.goToR qQ0 T_ok 100 rfl (q + 1) [(2, 2), (3, 3)] rfl rfl ⟨rfl, rfl, rfl, rfl, trivial⟩ (by simp [inK]; omega) ⟨⟨by omega, fun i hi => ?_⟩, by omega⟩ ⟨rfl, rfl, trivial⟩
      by_cases e : i = q
      ·subst e; exact he
      ·exact h2 i (by omega)
    ·have hq : q = a.n := by simp at h; omega
     subst hq
     refine KW.goOut qQ0 T_ok 100 rfl (by simp) ?_
     refine KW.goRet qQ0 T_ok 100 rfl rfl ?_ (by simp) trivial
     rw [(sameT_iff a b).2 (Tr.ext h3.1 h3.2.1 h3.2.2 h2)]; rfl
theorem left_does (t : Tr) : ∀ most depth : Int, 0 ≤ most -> most ≤ 4096 -> 0 ≤ depth -> depth ≤ 101 -> DoesF Tryz.prog 64 [trV t, iV most, iV depth] [] (sI (leftT t most depth)) [] := by
 induction t using Tr.ind with
 | h t ih =>
   intro most depth m0 m1 d0 d1
   have T_ok : FnsOk Tryz.prog ((64, fTII (fun t' m' d' => sI (leftT t' m' d')) fun t' m' d' => (∃ i, i < t.n /\ t' = t.k i) /\ 0 ≤ m' /\ m' ≤ 4096 /\ 0 ≤ d' /\ d' ≤ 101) :: U3) := by
    refine .cons U3_ok Tryz.func64 rfl rfl (fTII_ok fun t' m' d' h => ?_)
    obtain ⟨⟨i, hi, rfl⟩, h1, h2, h3, h4⟩ := h
    exact ih i hi m' d' h1 h2 h3 h4
   refine DoesF.body _ Tryz.func64 rfl rfl rfl rfl ?_
   refine KW.lenT 0 t rfl fun hn => ?_
   refine KW.open 0 t rfl ?_
   rw [leftT_eq]
   refine KW.goIf qQ0 T_ok 100 rfl (by simp [inK]; omega) rfl trivial (fun h => ?_) fun h => ?_
   ·have h1 : 100 < depth ∨ 10 < t.n := by simp at h; omega
    rw [if_pos h1]
    exact KW.goRet qQ0 T_ok 100 rfl rfl rfl (by simp) trivial
   ·have h1 : ¬ (100 < depth ∨ 10 < t.n) := by simp at h; omega
    rw [if_neg h1]
    have hG : ∀ q, q ≤ t.n -> -1 ≤ fwL (fun i m => leftT (t.k i) m (depth + 1)) (most - 1) q /\ fwL (fun i m => leftT (t.k i) m (depth + 1)) (most - 1) q ≤ most - 1 := fun q hq => fwL_rng (fun i hi m' hm' => leftT_rng (t.k i) m' (depth + 1) hm') (by omega)
    have hS : ∀ q, fwL (fun i m => leftT (t.k i) m (depth + 1)) (most - 1) (q + 1) = if fwL (fun i m => leftT (t.k i) m (depth + 1)) (most - 1) q < 0 then -1 else leftT (t.k q) (fwL (fun i m => leftT (t.k i) m (depth + 1)) (most - 1) q) (depth + 1) := fun q => rfl
    have hN : ∀ q, q < t.n -> fwL (fun i m => leftT (t.k i) m (depth + 1)) (most - 1) q < 0 -> fwL (fun i m => leftT (t.k i) m (depth + 1)) (most - 1) t.n = -1 := fun q hq h => fwL_neg h hq
    have h0 : fwL (fun i m => leftT (t.k i) m (depth + 1)) (most - 1) 0 = most - 1 := rfl
    generalize fwL (fun i m => leftT (t.k i) m (depth + 1)) (most - 1) = V at *
    refine KW.goLpR qQ0 T_ok 100 rfl (I := fun q : Nat => ⟨Tryz.f64.ntmps, [(1, sI (V q)), (2, sI depth), (20, .e (.c t.ksx)), (21, sI t.n), (22, sI q)], []⟩)
     (R := fun q => q ≤ t.n) (m := fun q => t.n - q) 0 [] rfl rfl ⟨by rw [h0]; rfl, rfl, rfl, rfl, rfl, trivial⟩ (by simp) (Nat.zero_le _) trivial ?_
    rintro q hq
    refine KW.goIf qQ0 T_ok 100 rfl (by simp) rfl trivial (fun h => ?_) fun h => ?_
    ·have hq : q < t.n := by simpa using h
     refine KW.goIf qQ0 T_ok 100 rfl (by simp; omega) rfl trivial (fun h => ?_) fun h => ?_
     ·have h2 : V q < 0 := by simpa using h
      refine KW.goOutR qQ0 T_ok 100 rfl (by simp) ?_
      refine KW.goRet qQ0 T_ok 100 rfl rfl ?_ (by simp) trivial
      rw [hN q hq h2]; rfl
     ·have h2 : ¬ V q < 0 := by simpa using h
      have := hG q (by omega)
      refine KW.goToR qQ0 T_ok 100 rfl (q + 1) [] rfl rfl ⟨?_, rfl, rfl, rfl, rfl, trivial⟩ ?_ ⟨by omega, by omega⟩ trivial
      ·rw [hS, if_neg h2]
       simp only [Int.toNat_natCast, Nat.zero_add, Tr.cell_1, qZ7]; rfl
      ·simp only [Int.toNat_natCast, Nat.zero_add, Tr.cell_1, qZ7, isKs_ks, true_and, and_true, inK]
       exact ⟨⟨by omega, ⟨q, hq, rfl⟩, by omega⟩, by omega⟩
    ·have hq : q = t.n := by simp at h; omega
     subst hq
     refine KW.goOut qQ0 T_ok 100 rfl (by simp) ?_
     exact KW.goRet qQ0 T_ok 100 rfl rfl rfl (by simp) trivial
def U4 : Fns := (59, fTT (fun a b => sB (sameT a b)) fun _ _ => True) ::
 (64, fTII (fun t m d => sI (leftT t m d)) fun t m d => 0 ≤ m /\ m ≤ 4096 /\ 0 ≤ d /\ d ≤ 101) ::
 U3
theorem U4_ok : FnsOk Tryz.prog U4 := .cons (.cons (U3_ok) Tryz.func64 rfl rfl (fTII_ok fun t m d h => left_does t m d h.1 h.2.1 h.2.2.1 h.2.2.2)) Tryz.func59 rfl rfl (fTT_ok fun a b _ => same_does a b)
theorem few_does (t : Tr) (m : Int) (h0 : 0 ≤ m) (h1 : m ≤ 4096) : DoesF Tryz.prog 26 [trV t, iV m] [] (sB (fwB t m)) [] := by
 refine DoesF.body _ Tryz.func26 rfl rfl rfl rfl ?_
 refine KW.goRet qQ0 U4_ok 100 rfl rfl ?_ (by simp; omega) trivial
 simp only [qZ7]; rfl
end Go.Proofs.YtgoilpfpmbjegaaGreatDoor.Tr
end
section
namespace Go.Pu
open Go.Sy
variable [Drw]
end Go.Pu
namespace Go.Proofs.YtgoilpfpmbjegaaGreatDoor.Tr
open Go.Sy Go.Pu
variable [Drw]
abbrev cuV (yes no : Int) : EV := .ag [.lit (.int .i64 yes), .lit (.int .i64 no)]
theorem leafQ (yes no r : Int) : ∀ q, q < 3 -> CVEq (nthD (.lit undef) (leafL ⟨yes, no, r⟩) q) (leafC ⟨yes, no, r⟩ q) := fun q hq =>
 match q, hq with
 | 0, _ => CVEq.refl _
 | 1, _ => CVEq.refl _
 | 2, _ => CVEq.refl _
theorem leaves_does (t : Tr) : gT t -> ∀ (yes no : Int) (xs : List LeafP), (xs.length : Int) + cntN t ≤ 8192 -> DoesF Tryz.prog 87 [.r 0, trV t, cuV yes no] [(0, .own 94 (leavesC xs))] (.e (.r 0)) [(0, .own 94 (leavesC (xs ++ lvs t yes no)))] := by
 induction t using Tr.ind with
 | h t ih =>
   intro hg yes no xs hx
   rw [lvs_eq]
   refine DoesF.body _ Tryz.func87 rfl rfl rfl rfl ?_
   refine KW.open 1 t rfl ?_
   refine KW.goIf qQ0 U4_ok 100 rfl (by simp) rfl trivial (fun h => ?_) fun h => ?_
   ·have h0 : t.n = 0 := by simpa using h
    rw [if_neg (by omega)]
    have pc := qC6 t
    refine KW.go qQ0 U4_ok 100 rfl (by simp; omega) ?_
    refine KW.catG 17 ⟨yes, no, t.r⟩ rfl ?_ ?_
    ·exact leafQ yes no t.r
    exact KW.fin [(0, 17)] rfl rfl rfl ⟨rfl, trivial⟩
   ·have h0 : t.n ≠ 0 := by simpa using h
    obtain ⟨h2, v0, v1, _, g0, g1⟩ := gT_kids hg h0
    have one := shl_rng24 v0 v1
    have p0 := qC6 (t.k 0)
    have p1 := qC6 (t.k 1)
    have l0 := lvs_len (t.k 0) yes (ior .i64 no (qW0 1 t.v))
    have r0 := szT_rng (t.k 0)
    rw [cntN_eq, if_pos h2] at hx
    rw [if_pos h2]
    refine KW.goDS qQ0 U4_ok rfl 100 rfl 14 rfl (by decide +kernel) (by decide +kernel) rfl (by simp) (by simp [inK, qC0]; omega) ?_
    refine KW.call0 (ih 0 (by omega) g0 yes (ior .i64 no (qW0 1 t.v)) xs (by omega)) (qQ9 Tryz.func87 rfl rfl) [(0, 0)] [(0, 32)] [] (.inl rfl) rfl rfl rfl rfl rfl trivial
     ⟨⟨_, _, rfl, trivial, (show Mt _ _ _ (EV.ren [(0, 0)] (.r 0)) (.r 0) from .same)⟩, ⟨_, _, rfl, trivial, (show Mt _ _ _ (EV.ren [(0, 0)] (trV (t.k 0))) (trV (t.k 0)) from .same)⟩, ⟨_, _, rfl, trivial, (show Mt _ _ _ (EV.ren [(0, 0)] (cuV yes (ior .i64 no (qW0 1 t.v)))) (cuV yes (ior .i64 no (qW0 1 t.v))) from .same)⟩, trivial⟩ rfl ⟨rfl, trivial⟩ rfl ⟨.inl rfl, trivial⟩ rfl rfl (.inl rfl) ?_
    refine KW.goDS qQ0 U4_ok rfl 100 rfl 14 rfl (by decide +kernel) (by decide +kernel) rfl (by simp) (by simp [inK, qC0]; omega) ?_
    refine KW.call0 (ih 1 (by omega) g1 (ior .i64 yes (qW0 1 t.v)) no (xs ++ lvs (t.k 0) yes (ior .i64 no (qW0 1 t.v))) (by rw [List.length_append]; omega)) (qQ9 Tryz.func87 rfl rfl) [(0, 32)] [(0, 47)] [] (.inl rfl) rfl rfl rfl rfl rfl trivial
     ⟨⟨_, _, rfl, trivial, (show Mt _ _ _ (EV.ren [(0, 32)] (.r 0)) (.r 0) from .same)⟩, ⟨_, _, rfl, trivial, (show Mt _ _ _ (EV.ren [(0, 32)] (trV (t.k 1))) (trV (t.k 1)) from .same)⟩, ⟨_, _, rfl, trivial, (show Mt _ _ _ (EV.ren [(0, 32)] (cuV (ior .i64 yes (qW0 1 t.v)) no)) (cuV (ior .i64 yes (qW0 1 t.v)) no) from .same)⟩, trivial⟩ rfl ⟨rfl, trivial⟩ rfl ⟨.inl rfl, trivial⟩ rfl rfl (.inl rfl) ?_
    rw [<-List.append_assoc]
    exact KW.goRetR qQ0 U4_ok 100 rfl [(0, 47)] rfl rfl rfl (by simp) (by exact ⟨rfl, trivial⟩)
theorem leaves0_does (t : Tr) : gT t -> ∀ (yes no : Int), cntN t ≤ 8192 -> DoesF Tryz.prog 87 [.c (.lit (.slice none 0 0)), trV t, cuV yes no] [] (.e (.r 0)) [(0, .own 94 (leavesC (lvs t yes no)))] := by
 induction t using Tr.ind with
 | h t ih =>
   intro hg yes no hx
   rw [lvs_eq]
   refine DoesF.body _ Tryz.func87 rfl rfl rfl rfl ?_
   refine KW.open 1 t rfl ?_
   refine KW.goIf qQ0 U4_ok 100 rfl (by simp) rfl trivial (fun h => ?_) fun h => ?_
   ·have h0 : t.n = 0 := by simpa using h
    rw [if_neg (by omega)]
    refine KW.go qQ0 U4_ok 100 rfl (by simp) ?_
    refine KW.convR 17 (leavesC [⟨yes, no, t.r⟩]) rfl rfl (fun e q he hq => ?_) ?_
    ·obtain rfl : e = 0 := by omega
     exact (show CVEq (nthD (.lit undef) (leafL ⟨yes, no, t.r⟩) (0 * 3 + q)) (leafC ⟨yes, no, t.r⟩ q) from by rw [Nat.zero_mul, Nat.zero_add]; exact leafQ yes no t.r q hq)
    exact KW.fin [(0, 17)] rfl rfl rfl ⟨rfl, trivial⟩
   ·have h0 : t.n ≠ 0 := by simpa using h
    obtain ⟨h2, v0, v1, _, g0, g1⟩ := gT_kids hg h0
    have one := shl_rng24 v0 v1
    have p0 := qC6 (t.k 0)
    have p1 := qC6 (t.k 1)
    have l0 := lvs_len (t.k 0) yes (ior .i64 no (qW0 1 t.v))
    have r0 := szT_rng (t.k 0)
    rw [cntN_eq, if_pos h2] at hx
    rw [if_pos h2]
    refine KW.goDS qQ0 U4_ok rfl 100 rfl 14 rfl (by decide +kernel) (by decide +kernel) rfl (by simp) (by simp [inK, qC0]; omega) ?_
    refine KW.callO0 (ih 0 (by omega) g0 yes (ior .i64 no (qW0 1 t.v)) (by omega)) (qQ9 Tryz.func87 rfl rfl) [] (.inl rfl) rfl rfl rfl rfl rfl trivial
     ⟨⟨_, _, rfl, trivial, .conv (CVEq.refl _)⟩, ⟨_, _, rfl, trivial, (show Mt _ _ _ (EV.ren [] (trV (t.k 0))) (trV (t.k 0)) from .same)⟩, ⟨_, _, rfl, trivial, (show Mt _ _ _ (EV.ren [] (cuV yes (ior .i64 no (qW0 1 t.v)))) (cuV yes (ior .i64 no (qW0 1 t.v))) from .same)⟩, trivial⟩ rfl (.inl rfl) ?_
    refine KW.goDS qQ0 U4_ok rfl 100 rfl 14 rfl (by decide +kernel) (by decide +kernel) rfl (by simp) (by simp [inK, qC0]; omega) ?_
    refine KW.call0 (leaves_does (t.k 1) g1 (ior .i64 yes (qW0 1 t.v)) no (lvs (t.k 0) yes (ior .i64 no (qW0 1 t.v))) (by omega)) (qQ9 Tryz.func87 rfl rfl) [(0, 32)] [(0, 47)] [] (.inl rfl) rfl rfl rfl rfl rfl trivial
     ⟨⟨_, _, rfl, trivial, (show Mt _ _ _ (EV.ren [(0, 32)] (.r 0)) (.r 0) from .same)⟩, ⟨_, _, rfl, trivial, (show Mt _ _ _ (EV.ren [(0, 32)] (trV (t.k 1))) (trV (t.k 1)) from .same)⟩, ⟨_, _, rfl, trivial, (show Mt _ _ _ (EV.ren [(0, 32)] (cuV (ior .i64 yes (qW0 1 t.v)) no)) (cuV (ior .i64 yes (qW0 1 t.v)) no) from .same)⟩, trivial⟩ rfl ⟨rfl, trivial⟩ rfl ⟨.inl rfl, trivial⟩ rfl rfl (.inl rfl) ?_
    exact KW.goRetR qQ0 U4_ok 100 rfl [(0, 47)] rfl rfl rfl (by simp) (by exact ⟨rfl, trivial⟩)
def splL (t : Tr) (vars : Int) : List LeafP := if splE t vars = 0 then lvs t 0 0 else []
abbrev lvV (l : List LeafP) : EV := .c (leavesC l)
theorem leavesX_does (t : Tr) (vars : Int) : DoesF Tryz.prog 46 [trV t, iV vars] [] (.tup [lvV (splL t vars), eV (splE t vars)]) [] := by
 refine DoesF.body _ Tryz.func46 rfl rfl rfl rfl ?_
 refine KW.goIf qQ0 U4_ok 100 rfl (by simp) rfl trivial (fun h => ?_) fun h => ?_
 ·have h0 : splE t vars ≠ 0 := by simpa using h
  refine KW.go qQ0 U4_ok 100 rfl (by simp) ?_
  refine KW.conv 4 (leavesC []) rfl ⟨rfl, rfl⟩ ?_
  refine KW.fin [] rfl rfl ?_ trivial
  simp only [splL, if_neg h0, qZ7]; rfl
 ·have h0 : splE t vars = 0 := by simpa using h
  obtain ⟨hg, hc⟩ := splE_g h0
  refine KW.go qQ0 U4_ok 100 rfl (by simp) ?_
  refine KW.callO0 (leaves0_does t hg 0 0 (by omega)) (qQ9 Tryz.func87 rfl rfl) [] (.inl rfl) rfl rfl rfl rfl rfl trivial
   ⟨⟨_, _, rfl, trivial, .conv (CVEq.refl _)⟩, ⟨_, _, rfl, trivial, (show Mt _ _ _ (EV.ren [] (trV t)) (trV t) from .same)⟩, ⟨_, _, rfl, trivial, (show Mt _ _ _ (EV.ren [] (cuV 0 0)) (cuV 0 0) from .same)⟩, trivial⟩ rfl (.inl rfl) ?_
  refine KW.frz1 15 rfl rfl rfl ?_
  refine KW.goRet qQ0 U4_ok 100 rfl rfl ?_ (by simp) trivial
  simp only [splL, if_pos h0, h0]; rfl
theorem below_does (t : Tr) : gT t -> ∀ (yes no : Int), cntN t ≤ 8192 -> DoesF Tryz.prog 95 [trV t, cuV yes no] [] (.e (.r 0)) [(0, .own 94 (leavesC (lvs t yes no)))] := by
 induction t using Tr.ind with
 | h t ih =>
   intro hg yes no hx
   rw [lvs_eq]
   refine DoesF.body _ Tryz.func95 rfl rfl rfl rfl ?_
   refine KW.open 0 t rfl ?_
   refine KW.goIf qQ0 U4_ok 100 rfl (by simp) rfl trivial (fun h => ?_) fun h => ?_
   ·have h0 : t.n = 0 := by simpa using h
    rw [if_neg (by omega)]
    refine KW.go qQ0 U4_ok 100 rfl (by simp) ?_
    refine KW.convR 15 (leavesC [⟨yes, no, t.r⟩]) rfl rfl (fun e q he hq => ?_) ?_
    ·obtain rfl : e = 0 := by omega
     exact (show CVEq (nthD (.lit undef) (leafL ⟨yes, no, t.r⟩) (0 * 3 + q)) (leafC ⟨yes, no, t.r⟩ q) from by rw [Nat.zero_mul, Nat.zero_add]; exact leafQ yes no t.r q hq)
    exact KW.fin [(0, 15)] rfl rfl rfl ⟨rfl, trivial⟩
   ·have h0 : t.n ≠ 0 := by simpa using h
    obtain ⟨h2, v0, v1, _, g0, g1⟩ := gT_kids hg h0
    have one := shl_rng24 v0 v1
    have p0 := qC6 (t.k 0)
    have p1 := qC6 (t.k 1)
    have l0 := lvs_len (t.k 0) yes (ior .i64 no (qW0 1 t.v))
    have r0 := szT_rng (t.k 0)
    have l1 := lvs_len (t.k 1) (ior .i64 yes (qW0 1 t.v)) no
    have r1 := szT_rng (t.k 1)
    rw [cntN_eq, if_pos h2] at hx
    rw [if_pos h2]
    refine KW.goDS qQ0 U4_ok rfl 100 rfl 13 rfl (by decide +kernel) (by decide +kernel) rfl (by simp) (by simp [inK, qC0]; omega) ?_
    refine KW.callO0 (ih 0 (by omega) g0 yes (ior .i64 no (qW0 1 t.v)) (by omega)) (qQ9 Tryz.func95 rfl rfl) [] (.inl rfl) rfl rfl rfl rfl rfl trivial
     ⟨⟨_, _, rfl, trivial, (show Mt _ _ _ (EV.ren [] (trV (t.k 0))) (trV (t.k 0)) from .same)⟩, ⟨_, _, rfl, trivial, (show Mt _ _ _ (EV.ren [] (cuV yes (ior .i64 no (qW0 1 t.v)))) (cuV yes (ior .i64 no (qW0 1 t.v))) from .same)⟩, trivial⟩ rfl (.inl rfl) ?_
    refine KW.goDS qQ0 U4_ok rfl 100 rfl 13 rfl (by decide +kernel) (by decide +kernel) rfl (by simp) (by simp [inK, qC0]; omega) ?_
    refine KW.callO0 (ih 1 (by omega) g1 (ior .i64 yes (qW0 1 t.v)) no (by omega)) (qQ9 Tryz.func95 rfl rfl) [] (.inl rfl) rfl rfl rfl rfl rfl trivial
     ⟨⟨_, _, rfl, trivial, (show Mt _ _ _ (EV.ren [] (trV (t.k 1))) (trV (t.k 1)) from .same)⟩, ⟨_, _, rfl, trivial, (show Mt _ _ _ (EV.ren [] (cuV (ior .i64 yes (qW0 1 t.v)) no)) (cuV (ior .i64 yes (qW0 1 t.v)) no) from .same)⟩, trivial⟩ rfl (.inl rfl) ?_
    generalize lvs (t.k 0) yes (ior .i64 no (qW0 1 t.v)) = a at *
    generalize lvs (t.k 1) (ior .i64 yes (qW0 1 t.v)) no = b at *
    rw [show leavesC (a ++ b) = catV (leavesC a) (leavesC b) from (catV_rows a b).symm]
    exact KW.goRetR qQ0 U4_ok 100 rfl [(0, 46)] rfl rfl rfl (by simp; omega) (by exact ⟨rfl, trivial⟩)
theorem rleavesX_does (t : Tr) (vars : Int) : DoesF Tryz.prog 54 [trV t, iV vars] [] (.tup [lvV (splL t vars), iV (splE t vars)]) [] := by
 refine DoesF.body _ Tryz.func54 rfl rfl rfl rfl ?_
 refine KW.goIf qQ0 U4_ok 100 rfl (by simp) rfl trivial (fun h => ?_) fun h => ?_
 ·have h0 : splE t vars ≠ 0 := by simpa using h
  refine KW.go qQ0 U4_ok 100 rfl (by simp) ?_
  refine KW.conv 4 (leavesC []) rfl ⟨rfl, rfl⟩ ?_
  refine KW.fin [] rfl rfl ?_ trivial
  simp only [splL, if_neg h0, qZ7]; rfl
 ·have h0 : splE t vars = 0 := by simpa using h
  obtain ⟨hg, hc⟩ := splE_g h0
  refine KW.go qQ0 U4_ok 100 rfl (by simp) ?_
  refine KW.callO0 (below_does t hg 0 0 (by omega)) (qQ9 Tryz.func95 rfl rfl) [] (.inl rfl) rfl rfl rfl rfl rfl trivial
   ⟨⟨_, _, rfl, trivial, (show Mt _ _ _ (EV.ren [] (trV t)) (trV t) from .same)⟩, ⟨_, _, rfl, trivial, (show Mt _ _ _ (EV.ren [] (cuV 0 0)) (cuV 0 0) from .same)⟩, trivial⟩ rfl (.inl rfl) ?_
  refine KW.frz1 15 rfl rfl rfl ?_
  refine KW.goRet qQ0 U4_ok 100 rfl rfl ?_ (by simp) trivial
  simp only [splL, if_pos h0, h0]; rfl
theorem shl_v {vars : Int} (h0 : 0 ≤ vars) (h1 : vars ≤ 24) : 1 ≤ qW0 1 vars /\ qW0 1 vars ≤ 16777216 := by
 obtain ⟨n, rfl⟩ := Int.eq_ofNat_of_zero_le h0
 exact (by decide +kernel : ∀ n : Fin 25, 1 ≤ qW0 1 ((n.val : Nat) : Int) /\ qW0 1 ((n.val : Nat) : Int) ≤ 16777216) ⟨n, by omega⟩
def unLs : CV -> List LeafP
 | .sl n _ f => (List.range n).map fun e => ⟨cvInt (f e 0), cvInt (f e 1), cvInt (f e 2)⟩
 | _ => []
def isLs (x : CV) : Prop := CVEq x (leavesC (unLs x))
@[simp] theorem unLs_leavesC (l : List LeafP) : unLs (leavesC l) = l := by
  unfold unLs leavesC rows
  refine List.ext_getElem (by simp) fun j h1 h2 => ?_
  simp only [List.getElem_map, List.getElem_range]
  have e : l.getD j leaf0 = l[j] := by simp [List.getD_eq_getElem?_getD, h2]
  rw [e]; rfl
@[simp] theorem isLs_leavesC (l : List LeafP) : isLs (leavesC l) := by unfold isLs; rw [unLs_leavesC]; exact CVEq.refl _
def U5 : Fns := (46, fTI (fun t v => .tup [lvV (splL t v), eV (splE t v)]) fun _ _ => True) ::
 (54, fTI (fun t v => .tup [lvV (splL t v), iV (splE t v)]) fun _ _ => True) ::
 (26, fTI (fun t m => sB (fwB t m)) fun _ m => 0 ≤ m /\ m ≤ 4096) ::
 U4
theorem U5_ok : FnsOk Tryz.prog U5 := .cons (.cons (.cons (U4_ok) Tryz.func26 rfl rfl (fTI_ok fun t m h => few_does t m h.1 h.2)) Tryz.func54 rfl rfl (fTI_ok fun t v _ => rleavesX_does t v)) Tryz.func46 rfl rfl (fTI_ok fun t v _ => leavesX_does t v)
def U6 : Fns := U5
theorem U6_ok : FnsOk Tryz.prog U6 := U5_ok
end Go.Proofs.YtgoilpfpmbjegaaGreatDoor.Tr
end
section
namespace Go.Pu
open Go.Sy
variable [Drw]
theorem decD_ne (u : Nat) : Lib.decDigits u ≠ [] := by
 rw [Lib.decDigits]; split <;> simp
theorem nDig_le : ∀ (m u : Nat), u < 10 ^ (m + 1) -> Lib.nDigits u ≤ m + 1
 | 0, u, h => by rw [Lib.nDigits_small (by simpa using h)]; exact Nat.le_refl _
 | m + 1, u, h => by
   by_cases h1 : u < 10
   ·rw [Lib.nDigits_small h1]; omega
   ·rw [Lib.nDigits_big h1]
    have := nDig_le m (u / 10) (by rw [Nat.pow_succ] at h; omega)
    omega
def showT : Tr -> List UInt8 := Tr.bin (fun t => Lib.itoa t.r) fun t x y => 91 :: (Lib.itoa t.v ++ 32 :: (x ++ 32 :: (y ++ [93])))
theorem showT_eq (t : Tr) : showT t = if t.n = 2 then 91 :: (Lib.itoa t.v ++ 32 :: (showT (t.k 0) ++ 32 :: (showT (t.k 1) ++ [93]))) else Lib.itoa t.r := Tr.bin_eq _ _ t
theorem itoa_len (n : Int) : 1 ≤ (Lib.itoa n).length := by
 have hne := decD_ne n.natAbs
 by_cases hneg : n < 0
 ·have hi : Lib.itoa n = 45 :: Lib.decDigits n.natAbs := by rw [Lib.itoa, if_pos hneg]
  rw [hi]; simp
 ·have hi : Lib.itoa n = Lib.decDigits n.natAbs := by rw [Lib.itoa, if_neg hneg]; congr 1; omega
  rw [hi]; exact List.length_pos_iff.2 hne
theorem showT_len (t : Tr) : 1 ≤ (showT t).length := by
 rw [showT_eq]; split
 ·simp
 ·exact itoa_len _
end Go.Pu
end
section
namespace Go.Pu
open Go.Sy
variable [Drw]
end Go.Pu
namespace Go.Sy
variable [Drw]
end Go.Sy
namespace Go.Pu
open Go.Sy
variable [Drw]
end Go.Pu
namespace Go.Proofs.YtgoilpfpmbjegaaGreatDoor.Tr
open Go.Sy Go.Pu
variable [Drw]
def U7 : Fns := U6
theorem U7_ok : FnsOk Tryz.prog U7 := U6_ok
end Go.Proofs.YtgoilpfpmbjegaaGreatDoor.Tr
end
section
namespace Go.Sy
variable [Drw]
theorem FnsOk.append {P : Program} {a b : Fns} (ha : FnsOk P a) (hb : FnsOk P b) : FnsOk P (a ++ b) := fun f F h => by
 cases hl : lk a f with
 | some G =>
   rw [qD2 hl] at h
   cases h
   exact ha f _ hl
 | none =>
   have : lk (a ++ b) f = lk b f := by
    clear ha h
    induction a with
    | nil => rfl
    | cons p a ih =>
      rw [qQ3] at hl
      split at hl
      ·cases hl
      ·rename_i hne
       rw [List.cons_append, qQ3, if_neg hne, ih hl]
   rw [this] at h
   exact hb f F h
end Go.Sy
namespace Go.Proofs.YtgoilpfpmbjegaaGreatDoor
open Go.Sy Go.Pu Go.Proofs.YtgoilpfpmbjegaaGreatDoor.Tr
variable [Drw]
def idxV (p : Int -> Bool) (xs : List Int) : Int := match firstB (fun i => p (xs.getD i 0)) xs.length with
 | some i => (i : Int)
 | none => -1
theorem idxV_some {p : Int -> Bool} {xs : List Int} {i : Nat} (h : firstB (fun i => p (xs.getD i 0)) xs.length = some i) : idxV p xs = i := by rw [idxV, h]
theorem idxV_none {p : Int -> Bool} {xs : List Int} (h : firstB (fun i => p (xs.getD i 0)) xs.length = none) : idxV p xs = -1 := by rw [idxV, h]
theorem indexP_does {g m : Nat} {ks : Nat -> Nat} {caps : Nat -> Nat -> CV} {p : Int -> Bool} (xs : List Int) (hc : Clo Tryz.prog g m ks caps p xs) :
  DoesF Tryz.prog 86 [.c (qZ5 xs), .c (.clo g m ks caps)] [] (sI (idxV p xs)) [] := by
 refine DoesF.body _ Tryz.func86 rfl rfl rfl rfl ?_
 refine KW.len 0 rfl rfl fun hla => ?_
 refine KW.goLp qQ0 qJ4 100 rfl (I := fun q : Nat => ⟨Tryz.f86.ntmps, [(0, .e (.c (qZ5 xs))), (1, .e (.c (.clo g m ks caps))), (7, sI xs.length), (8, sI q)], []⟩) (R := fun q => q ≤ xs.length /\ ∀ i, i < q -> p (xs.getD i 0) = false) (m := fun q => xs.length - q) 0 rfl ⟨rfl, rfl, rfl, rfl, trivial⟩ (by simp) ⟨by simp, fun i hi => absurd hi (by omega)⟩ trivial ?_
 rintro q ⟨h1, h2⟩
 refine KW.goIf qQ0 qJ4 100 rfl (by simp) rfl trivial (fun h => ?_) fun h => ?_
 ·have hq : q < xs.length := by simpa using h
  have hg : xs.getD (Int.toNat (q : Int)) 0 = xs[q] := by simp [List.getD_eq_getElem?_getD, hq]
  have hg' : xs.getD q 0 = xs[q] := by simp [List.getD_eq_getElem?_getD, hq]
  refine KW.go qQ0 qJ4 100 rfl (by simp; omega) ?_
  refine KW.callC [iV xs[q]] (hc.2 xs[q] (List.getElem_mem hq)) hc.1 [] (.inl rfl) rfl rfl rfl rfl rfl trivial ⟨⟨_, _, rfl, trivial, Mt.conv (show CVEq (.lit (.int .i64 (xs.getD (Int.toNat (q : Int)) 0))) _ by rw [hg]; exact CVEq.refl _)⟩, trivial⟩ rfl (.inl rfl) ?_
  refine KW.goIf qQ0 qJ4 100 rfl (by simp) rfl trivial (fun h => ?_) fun h => ?_
  ·refine KW.goOutR qQ0 qJ4 100 rfl (by simp) ?_
   refine KW.goRet qQ0 qJ4 100 rfl rfl ?_ (by simp) trivial
   rw [idxV_some (firstB_some hq (by rw [hg']; exact h) h2)]; rfl
  ·refine KW.goTo qQ0 qJ4 100 rfl (q + 1) rfl ⟨rfl, rfl, rfl, rfl, trivial⟩ (by simp [inK]; omega) ⟨⟨by omega, fun i hi => ?_⟩, by omega⟩ trivial
   by_cases hiq : i = q
   ·subst hiq; rw [hg']; exact h
   ·exact h2 i (by omega)
 ·have hq : q = xs.length := by simp at h; omega
  refine KW.goOut qQ0 qJ4 100 rfl (by simp) ?_
  refine KW.goRet qQ0 qJ4 100 rfl rfl ?_ (by simp) trivial
  rw [idxV_none (qC5.2 fun i hi => h2 i (by omega))]; rfl
theorem idx_yes {l : List Int} {y : Int} {i : Nat} (h : inYes l y = some i) : idxV (fun x => qQ4 .i64 x y == 0) l = i := idxV_some (p := fun x => qQ4 .i64 x y == 0) h
theorem idx_yes0 {l : List Int} {y : Int} (h : inYes l y = none) : idxV (fun x => qQ4 .i64 x y == 0) l = -1 := idxV_none (p := fun x => qQ4 .i64 x y == 0) h
theorem idx_off {l : List Int} {y : Int} {i : Nat} (h : offNo l y = some i) : idxV (fun x => qK9 .i64 x y == 0) l = i := idxV_some (p := fun x => qK9 .i64 x y == 0) h
theorem idx_off0 {l : List Int} {y : Int} (h : offNo l y = none) : idxV (fun x => qK9 .i64 x y == 0) l = -1 := idxV_none (p := fun x => qK9 .i64 x y == 0) h
def Y0 : Fns := U6 ++ (K6 ++ G9)
theorem qC7 : FnsOk Tryz.prog Y0 := U6_ok.append (K6_ok.append G9_ok)
def headE (l : List Int) : Int := l.headD (-1)
theorem headE_none (s : Int) : ∀ k, (∀ i, i < k -> bit s i = false) -> elemsN s k = []
 | 0, _ => rfl
 | k + 1, h => by rw [qD5, headE_none s k fun i hi => h i (by omega), h k (by omega)]; rfl
theorem headE_at (s : Int) (c : Nat) (h : ∀ i, i < c -> bit s i = false) (hc : bit s c = true) : ∀ k, c < k -> headE (elemsN s k) = c
 | 0, hk => by omega
 | k + 1, hk => by
   rw [qD5]
   by_cases e : c = k
   ·subst e
    rw [headE_none s c h, hc]; rfl
   ·have := headE_at s c h hc k (by omega)
    unfold headE at this ⊢
    cases hl : elemsN s k with
    | nil => rw [hl] at this; simp at this
    | cons x r => rw [hl] at this; simpa using this
theorem headE_low {s : Int} (hs : qQ6 s = true) (h : s ≠ 0) : headE (qW1 s) = lowB s := by
 obtain ⟨h1, h2, h3⟩ := lowB_spec hs h
 exact headE_at s (lowB s) h3 h2 24 h1
theorem rleastE_does (s : Int) : DoesF Tryz.prog 100 [iV s] [] (sI (headE (qW1 s))) [] := by
 refine DoesF.body _ Tryz.func100 rfl rfl rfl rfl ?_
 refine KW.goLpR qQ0 qC7 100 rfl (I := fun q : Nat => ⟨Tryz.f100.ntmps, [(6, .e (lV (qW1 s))), (7, sI (qW1 s).length), (8, sI q)], []⟩)
  (R := fun q => q = 0) (m := fun q => 0) 0 [] rfl rfl ⟨rfl, rfl, rfl, trivial⟩ (by simp) rfl trivial ?_
 rintro q rfl
 refine KW.goIf qQ0 qC7 100 rfl (by simp) rfl trivial (fun h => ?_) fun h => ?_
 ·have hq : 0 < (qW1 s).length := by have := of_decide_eq_true h; omega
  refine KW.goOutR qQ0 qC7 100 rfl (by simpa using hq) ?_
  refine KW.goRet qQ0 qC7 100 rfl rfl ?_ (by simp) trivial
  cases hl : qW1 s with
  | nil => rw [hl] at hq; exact absurd hq (Nat.lt_irrefl 0)
  | cons x r => rfl
 ·have hq : (qW1 s).length = 0 := by have := of_decide_eq_false h; omega
  refine KW.goOut qQ0 qC7 100 rfl (by simp) ?_
  refine KW.goRet qQ0 qC7 100 rfl rfl ?_ (by simp) trivial
  rw [List.length_eq_zero_iff.1 hq]; rfl
theorem lvs_in (t : Tr) : gT t -> t.In -> ∀ (yes no : Int), ∀ l ∈ lvs t yes no, inK .i64 l.reason := by
 induction t using Tr.ind with
 | h t ih =>
   intro hg hin yes no l hl
   obtain ⟨iv, ir, ik⟩ := (Tr.in_iff t).1 hin
   rw [lvs_eq] at hl
   split at hl
   ·rename_i h2
    obtain ⟨_, _, _, _, g0, g1⟩ := gT_kids hg (by omega)
    rcases List.mem_append.1 hl with hl | hl
    ·exact ih 0 (by omega) g0 (ik 0 (by omega)) _ _ l hl
    ·exact ih 1 (by omega) g1 (ik 1 (by omega)) _ _ l hl
   ·rw [List.mem_singleton] at hl
    rw [hl]; exact ir
def qV3 (x : CasP) : List CV := [.lit (.int .i64 x.state), qZ5 x.cost]
theorem case_eq {s : Int} {c : CV} (h : isI c) : EvEq (.ag [.lit (.int .i64 s), c]) (.ag (qV3 ⟨s, unI c⟩)) := by
 refine ⟨rfl, fun q y z hy hz => ?_⟩
 match q, hy, hz with
 | 0, hy, hz => simp [qV3] at hy hz; subst hy; subst hz; exact CVEq.refl _
 | 1, hy, hz => simp [qV3] at hy hz; subst hy; subst hz; exact h
 | q + 2, hy, hz => simp at hy
def fFX (g : FormP -> CasP -> SV) (p : FormP -> CasP -> Prop) : List EV -> Option (SV × Prop)
 | [.ag [.lit (.int .i64 a), x, .lit (.int .i64 b)], .ag [.lit (.int .i64 s), c]] => some (g ⟨a, unN x, b⟩ ⟨s, unI c⟩, isN x /\ isI c /\ p ⟨a, unN x, b⟩ ⟨s, unI c⟩)
 | _ => none
theorem fFX_ok {P : Program} {f : FuncId} {g : FormP -> CasP -> SV} {p : FormP -> CasP -> Prop} (h : ∀ x c, p x c -> DoesF P f [.ag (qX5 x), .ag (qV3 c)] [] (g x c) []) : ∀ ys y φ, fFX g p ys = some (y, φ) -> φ -> DoesF P f ys [] y [] := by
 intro ys y φ he hφ
 unfold fFX at he
 split at he
 ·simp only [Option.some.injEq, Prod.mk.injEq] at he
  obtain ⟨rfl, rfl⟩ := he
  obtain ⟨h1, h2, h3⟩ := hφ
  refine DoesF.conv ?_ (h _ _ h3)
  exact ⟨form_eq h1, case_eq h2, trivial⟩
 ·cases he
def fXI (g : CasP -> Int -> SV) (p : CasP -> Int -> Prop) : List EV -> Option (SV × Prop)
 | [.ag [.lit (.int .i64 s), c], .c (.lit (.int .i64 t))] => some (g ⟨s, unI c⟩ t, isI c /\ p ⟨s, unI c⟩ t)
 | _ => none
theorem fXI_ok {P : Program} {f : FuncId} {g : CasP -> Int -> SV} {p : CasP -> Int -> Prop} (h : ∀ x t, p x t -> DoesF P f [.ag (qV3 x), iV t] [] (g x t) []) : ∀ ys y φ, fXI g p ys = some (y, φ) -> φ -> DoesF P f ys [] y [] := by
 intro ys y φ he hφ
 unfold fXI at he
 split at he
 ·simp only [Option.some.injEq, Prod.mk.injEq] at he
  obtain ⟨rfl, rfl⟩ := he
  obtain ⟨h1, h2⟩ := hφ
  refine DoesF.conv ?_ (h _ _ h2)
  exact ⟨case_eq h1, CVEq.refl _, trivial⟩
 ·cases he
def fFXI (g : FormP -> CasP -> Int -> SV) (p : FormP -> CasP -> Int -> Prop) : List EV -> Option (SV × Prop)
 | [.ag [.lit (.int .i64 a), x, .lit (.int .i64 b)], .ag [.lit (.int .i64 s), c], .c (.lit (.int .i64 t))] => some (g ⟨a, unN x, b⟩ ⟨s, unI c⟩ t, isN x /\ isI c /\ p ⟨a, unN x, b⟩ ⟨s, unI c⟩ t)
 | _ => none
theorem fFXI_ok {P : Program} {f : FuncId} {g : FormP -> CasP -> Int -> SV} {p : FormP -> CasP -> Int -> Prop} (h : ∀ x c t, p x c t -> DoesF P f [.ag (qX5 x), .ag (qV3 c), iV t] [] (g x c t) []) : ∀ ys y φ, fFXI g p ys = some (y, φ) -> φ -> DoesF P f ys [] y [] := by
 intro ys y φ he hφ
 unfold fFXI at he
 split at he
 ·simp only [Option.some.injEq, Prod.mk.injEq] at he
  obtain ⟨rfl, rfl⟩ := he
  obtain ⟨h1, h2, h3⟩ := hφ
  refine DoesF.conv ?_ (h _ _ _ h3)
  exact ⟨form_eq h1, case_eq h2, CVEq.refl _, trivial⟩
 ·cases he
structure CostB (x : CasP) : Prop where
 len : x.cost.length ≤ 24
 cost : ∀ i, 0 ≤ cst x i /\ cst x i ≤ 1048576
theorem CasOk.costB {f : FormP} {x : CasP} {n : Nat} (h : CasOk f x n) : CostB x := ⟨by have := h.len; have := h.n24; omega, h.cost⟩
theorem check1_does (c : Int) : DoesF Tryz.prog 71 [iV c] [] (sB (decide (c < 0) || decide (1048576 < c))) [] := by
 refine DoesF.body _ Tryz.func71 rfl rfl rfl rfl ?_
 exact KW.goRet qQ0 qC7 100 rfl rfl rfl (by simp) trivial
theorem cost_any (l : List Int) : (l.all fun c => decide (0 ≤ c) && decide (c ≤ 1048576)) = !(l.any fun c => decide (c < 0) || decide (1048576 < c)) := by
 rw [List.not_any_eq_all_not]
 congr 1
 funext c
 rw [Bool.eq_iff_iff]
 simp
set_option maxHeartbeats 1600000 in
theorem rpcheck_does (f : FormP) (x : CasP) (hin : FormIn f) : DoesF Tryz.prog 31 [.ag (qX5 f), .ag (qV3 x)] [] (.e (eV (casE f x))) [] := by
 refine DoesF.body _ Tryz.func31 rfl rfl rfl rfl ?_
 obtain ⟨vars, ns, top⟩ := f
 obtain ⟨st, cost⟩ := x
 refine KW.goIf qQ0 qC7 100 rfl (by simp only [qQ1, qQ5, true_and, and_true, qQ7]; simp [hin]) rfl trivial (fun h => ?_) fun h => ?_
 ·have h1 : qJ2 ⟨vars, ns, top⟩ ≠ 0 := by simpa [qQ1] using h
  have e : casE ⟨vars, ns, top⟩ ⟨st, cost⟩ = qJ2 ⟨vars, ns, top⟩ := by rw [casE, qV7, if_neg h1, if_neg h1]
  refine KW.goRet qQ0 qC7 100 rfl rfl ?_ (by simp) trivial
  simp only [qQ1, e]; rfl
 have h1 : qJ2 ⟨vars, ns, top⟩ = 0 := by simpa [qQ1] using h
 refine KW.goIf qQ0 qC7 100 rfl (by simp) rfl trivial (fun h => ?_) fun h => ?_
 ·have h2 : cohF ⟨vars, ns, top⟩ = false := by simpa [qQ1, cohV, h1] using h
  have e : casE ⟨vars, ns, top⟩ ⟨st, cost⟩ = 7 := by simp [casE, qV7, h1, h2]
  refine KW.goRet qQ0 qC7 100 rfl rfl ?_ (by simp) trivial
  rw [e]; rfl
 have h2 : cohF ⟨vars, ns, top⟩ = true := by simpa [qQ1, cohV, h1] using h
 have hp : qV7 ⟨vars, ns, top⟩ = 0 := by simp [qV7, h1, h2]
 have hvr := (qY1 h1).vars
 simp only at hvr
 have hsh := shl_v hvr.1 hvr.2
 rw [casE, if_pos hp]
 refine KW.goD qQ0 qC7 rfl 100 rfl (by decide +kernel) rfl (by simp) ?_ ?_
 ·simp +contextual [inK, qC0]
  omega
 refine KW.goIf qQ0 qC7 100 rfl (by simp) rfl trivial (fun h => ?_) fun h => ?_
 ·have h3 : ¬ ((decide (0 ≤ st) && decide (st < qW0 1 vars)) = true) := by
   have : (decide (st < 0) || decide (qW0 1 vars ≤ st)) = true := h
   simp at this ⊢
   omega
  refine KW.goRet qQ0 qC7 100 rfl rfl ?_ (by simp) trivial
  simp only [if_neg h3]; rfl
 have h3 : (decide (0 ≤ st) && decide (st < qW0 1 vars)) = true := by
  have : (decide (st < 0) || decide (qW0 1 vars ≤ st)) = false := h
  simp at this ⊢
  omega
 simp only [if_pos h3]
 refine KW.goIf qQ0 qC7 100 rfl (by simp) rfl trivial (fun h => ?_) fun h => ?_
 ·have h4 : ¬ (cost.length : Int) = vars := by simpa using h
  refine KW.goRet qQ0 qC7 100 rfl rfl ?_ (by simp) trivial
  simp only [if_neg h4]; rfl
 have h4 : (cost.length : Int) = vars := by simpa using h
 simp only [if_pos h4]
 refine KW.go qQ0 qC7 100 rfl (by simp) ?_
 refine KW.callV0 (containsFunc_does (m := 0) (ks := fun _ => 0) (caps := fun _ _ => .lit undef) (p := fun c => decide (c < 0) || decide (1048576 < c)) cost ⟨qQ9 Tryz.func71 rfl rfl, fun x _ => check1_does x⟩) (qQ9 Tryz.func44 rfl rfl) [] (.inl rfl) rfl rfl rfl rfl rfl trivial
  ⟨⟨_, _, rfl, trivial, .conv (CVEq.refl _)⟩, ⟨_, _, rfl, trivial, .conv (CVEq.refl _)⟩, trivial⟩ rfl (.inl rfl) ?_
 have hany := cost_any cost
 refine KW.goIf qQ0 qC7 100 rfl (by simp) rfl trivial (fun h => ?_) fun h => ?_
 ·have h5 : (cost.any fun c => decide (c < 0) || decide (1048576 < c)) = true := h
  rw [h5] at hany
  refine KW.goRet qQ0 qC7 100 rfl rfl ?_ (by simp) trivial
  simp only [hany]; rfl
 have h5 : (cost.any fun c => decide (c < 0) || decide (1048576 < c)) = false := h
 rw [h5] at hany
 refine KW.goRet qQ0 qC7 100 rfl rfl ?_ (by simp) trivial
 simp only [hany]; rfl
theorem shr_bit (s : Int) {q : Nat} (hq : q < 24) : (qK9 .i64 (ishr s (q : Int)) 1 == 1) = bit s q := by
 rw [ishr_bit s (by omega)]
 cases bit s q <;> rfl
theorem price_does (x : CasP) (s : Int) (hx : CostB x) : DoesF Tryz.prog 47 [.ag (qV3 x), iV s] [] (sI (qV4 x s)) [] := by
 refine DoesF.body _ Tryz.func47 rfl rfl rfl rfl ?_
 have hl := hx.len
 have hb := fun k hk => sumN_bound (c := cst x) (B := 1048576) (by decide) (fun i _ => hx.cost i) s k hk
 have hc := hx.cost
 obtain ⟨st, cost⟩ := x
 simp only at hl
 refine KW.goLpR qQ0 qC7 100 rfl (I := fun q : Nat => ⟨Tryz.f47.ntmps, [(1, sI s), (5, sI (sumN (cst ⟨st, cost⟩) s q)), (9, .e (lV cost)), (10, sI cost.length), (11, sI q)], []⟩)
  (R := fun q => q ≤ cost.length) (m := fun q => cost.length - q) 0 [] rfl rfl ⟨rfl, rfl, rfl, rfl, rfl, trivial⟩ (by simp) (Nat.zero_le _) trivial ?_
 intro q hq0
 have hbq := hb q (by omega)
 refine KW.goIf qQ0 qC7 100 rfl (by simp) rfl trivial (fun h => ?_) fun h => ?_
 ·have hq : q < cost.length := by simp at h; omega
  have hcq := hc q
  have hgi : cost.getD (Int.toNat (q : Int)) 0 = cst ⟨st, cost⟩ q := by rw [Int.toNat_natCast]; rfl
  have hsb := shr_bit s (q := q) (by omega)
  refine KW.goIf qQ0 qC7 100 rfl (by simp [inK, qC0]; omega) rfl trivial (fun h => ?_) fun h => ?_
  ·have h1 : bit s q = true := hsb.symm.trans h
   refine KW.goToR qQ0 qC7 100 rfl (q + 1) [] rfl rfl ⟨rfl, ?_, rfl, rfl, rfl, trivial⟩ ?_ ⟨by omega, by omega⟩ trivial
   ·rw [sumN, h1, if_pos rfl, <-hgi]; rfl
   ·simp only [hgi]
    simp [inK]
    omega
  ·have h1 : bit s q = false := hsb.symm.trans h
   refine KW.goToR qQ0 qC7 100 rfl (q + 1) [] rfl rfl ⟨rfl, ?_, rfl, rfl, rfl, trivial⟩ (by simp [inK]; omega) ⟨by omega, by omega⟩ trivial
   rw [sumN, h1, if_neg (by decide), Int.add_zero]; rfl
 ·have hq : q = cost.length := by simp at h; omega
  subst hq
  refine KW.goOut qQ0 qC7 100 rfl (by simp) ?_
  exact KW.goRet qQ0 qC7 100 rfl rfl rfl (by simp) trivial
theorem rpleast_does (x : CasP) (s : Int) (hx : CostB x) : DoesF Tryz.prog 36 [.ag (qV3 x), iV s] [] (sI (qK3 x s)) [] := by
 refine DoesF.body _ Tryz.func36 rfl rfl rfl rfl ?_
 have hl := hx.len
 have hb := qD4 (c := cst x) (B := 1048576) hx.cost (by decide) s
 have hc := hx.cost
 obtain ⟨st, cost⟩ := x
 simp only at hl
 refine KW.goLpR qQ0 qC7 100 rfl (I := fun q : Nat => ⟨Tryz.f36.ntmps, [(1, sI s), (5, sI (qK4 (cst ⟨st, cost⟩) s q)), (9, .e (lV cost)), (10, sI cost.length), (11, sI q)], []⟩)
  (R := fun q => q ≤ cost.length) (m := fun q => cost.length - q) 0 [] rfl rfl ⟨rfl, rfl, rfl, rfl, rfl, trivial⟩ (by simp) (Nat.zero_le _) trivial ?_
 intro q hq0
 have hbq := hb q
 refine KW.goIf qQ0 qC7 100 rfl (by simp) rfl trivial (fun h => ?_) fun h => ?_
 ·have hq : q < cost.length := by simp at h; omega
  have hcq := hc q
  have hgi : cost.getD (Int.toNat (q : Int)) 0 = cst ⟨st, cost⟩ q := by rw [Int.toNat_natCast]; rfl
  have hsb := shr_bit s (q := q) (by omega)
  have htest : ((qK9 .i64 (ishr s (q : Int)) 1 == 1) && (decide (qK4 (cst ⟨st, cost⟩) s q < 0) || decide (cost.getD (Int.toNat (q : Int)) 0 < qK4 (cst ⟨st, cost⟩) s q))) = decide (bit s q = true /\ (qK4 (cst ⟨st, cost⟩) s q < 0 ∨ cst ⟨st, cost⟩ q < qK4 (cst ⟨st, cost⟩) s q)) := by
   rw [hsb, hgi, Bool.eq_iff_iff]
   simp
  refine KW.goIf qQ0 qC7 100 rfl (by simp [inK, qC0]; omega) rfl trivial (fun h => ?_) fun h => ?_
  ·have h1 := of_decide_eq_true (htest.symm.trans h)
   refine KW.goToR qQ0 qC7 100 rfl (q + 1) [] rfl rfl ⟨rfl, ?_, rfl, rfl, rfl, trivial⟩ (by simp [inK]; omega) ⟨by omega, by omega⟩ trivial
   rw [qK4, if_pos h1, <-hgi]; rfl
  ·have h1 := of_decide_eq_false (htest.symm.trans h)
   refine KW.goToR qQ0 qC7 100 rfl (q + 1) [] rfl rfl ⟨rfl, ?_, rfl, rfl, rfl, trivial⟩ (by simp [inK]; omega) ⟨by omega, by omega⟩ trivial
   rw [qK4, if_neg h1]; rfl
 ·have hq : q = cost.length := by simp at h; omega
  subst hq
  refine KW.goOut qQ0 qC7 100 rfl (by simp) ?_
  exact KW.goRet qQ0 qC7 100 rfl rfl rfl (by simp) trivial
theorem possible_does (f : FormP) (hin : FormIn f) (h0 : qJ2 f = 0) : DoesF Tryz.prog 32 [.ag (qX5 f)] [] (.e (eV (posE f))) [] := by
 refine DoesF.body _ Tryz.func32 rfl rfl rfl rfl ?_
 obtain ⟨vars, ns, top⟩ := f
 have hv := (qY1 h0).vars
 simp only at hv
 have hsh := shl_v hv.1 hv.2
 have hst : qB5 ⟨vars, ns, top⟩ 0 = 0 := by
  rw [qB5, if_pos h0, if_neg]
  simp only
  omega
 have hval : valV ⟨vars, ns, top⟩ 0 = qJ5 ⟨vars, ns, top⟩ 0 := by simp [valV, hst]
 cases hb : qJ5 ⟨vars, ns, top⟩ 0 with
 | true =>
   refine KW.goIf qQ0 qC7 100 rfl ?_ rfl trivial (fun h => ?_) fun h => absurd h ?_
   ·simp only [qQ1, qQ5, true_and, and_true, qQ7, hst, hval]
    simp [hin]
   ·refine KW.goRet qQ0 qC7 100 rfl rfl ?_ (by simp) trivial
    simp only [posE, hb, if_true]; rfl
   ·simp only [qQ1, hst, hval, hb]
    simp
 | false =>
   refine KW.goIf qQ0 qC7 100 rfl ?_ rfl trivial (fun h => absurd h ?_) fun h => ?_
   ·simp only [qQ1, qQ5, true_and, and_true, qQ7, hst, hval]
    simp [hin]
   ·simp only [qQ1, hst, hval, hb]
    simp
   ·refine KW.goRet qQ0 qC7 100 rfl rfl ?_ (by simp) trivial
    simp only [posE, hb, qQ1, hst]; rfl
def R0 : Fns := (31, fFX (fun f x => .e (eV (casE f x))) fun f _ => FormIn f) ::
 (47, fXI (fun x s => sI (qV4 x s)) fun x _ => CostB x) ::
 (36, fXI (fun x s => sI (qK3 x s)) fun x _ => CostB x) ::
 (32, fF (fun f => .e (eV (posE f))) fun f => FormIn f /\ qJ2 f = 0) ::
 Y0
theorem R0_ok : FnsOk Tryz.prog R0 := .cons (.cons (.cons (.cons (qC7) Tryz.func32 rfl rfl (fF_ok fun f h => possible_does f h.1 h.2)) Tryz.func36 rfl rfl (fXI_ok fun x s h => rpleast_does x s h)) Tryz.func47 rfl rfl (fXI_ok fun x s h => price_does x s h)) Tryz.func31 rfl rfl (fFX_ok fun f x h => rpcheck_does f x h)
end Go.Proofs.YtgoilpfpmbjegaaGreatDoor
end
section
namespace Go.Proofs.YtgoilpfpmbjegaaGreatDoor
open Go.Sy Go.Pu Go.Proofs.YtgoilpfpmbjegaaGreatDoor.Tr
variable [Drw]
theorem rerror57_does (f : FormP) (x : CasP) (hin : FormIn f) : DoesF Tryz.prog 37 [.ag (qX5 f), .ag (qV3 x)] [] (sI (casE f x)) [] := by
 refine DoesF.body _ Tryz.func37 rfl rfl rfl rfl ?_
 obtain ⟨vars, ns, top⟩ := f
 obtain ⟨st, cost⟩ := x
 refine KW.goIf qQ0 R0_ok 100 rfl (by simp only [qQ1, qQ5, true_and, and_true]; exact hin) rfl trivial (fun h => ?_) fun h => ?_
 ·have h1 : qV7 ⟨vars, ns, top⟩ ≠ 0 := by simpa [qQ1] using h
  refine KW.goRet qQ0 R0_ok 100 rfl rfl ?_ (by simp) trivial
  rw [casE, if_neg h1]; simp only [qQ1]; rfl
 have h1 : qV7 ⟨vars, ns, top⟩ = 0 := by simpa [qQ1] using h
 have hv := (qY1 (pathE_ok h1).1).vars
 simp only at hv
 rw [casE, if_pos h1]
 refine KW.goIf qQ0 R0_ok 100 rfl (by simp only [qQ1, qQ5, true_and, and_true]; exact hv) rfl trivial (fun h => ?_) fun h => ?_
 ·have h3 : ¬ ((decide (0 ≤ st) && decide (st < qW0 1 vars)) = true) := by
   have : (!(decide (0 ≤ st) && decide (st < qW0 1 vars))) = true := h
   intro h'; rw [h'] at this; cases this
  refine KW.goRet qQ0 R0_ok 100 rfl rfl ?_ (by simp) trivial
  simp only [if_neg h3]; rfl
 have h3 : (decide (0 ≤ st) && decide (st < qW0 1 vars)) = true := by
  have : (!(decide (0 ≤ st) && decide (st < qW0 1 vars))) = false := h
  rwa [Bool.not_eq_false'] at this
 simp only [if_pos h3]
 refine KW.goIf qQ0 R0_ok 100 rfl (by simp) rfl trivial (fun h => ?_) fun h => ?_
 ·have h4 : ¬ (cost.length : Int) = vars := by simpa using h
  refine KW.goRet qQ0 R0_ok 100 rfl rfl ?_ (by simp) trivial
  simp only [if_neg h4]; rfl
 have h4 : (cost.length : Int) = vars := by simpa using h
 simp only [if_pos h4]
 refine KW.goLpR qQ0 R0_ok 100 rfl (I := fun q : Nat => ⟨Tryz.f37.ntmps, [(25, .e (lV cost)), (26, sI cost.length), (27, sI q)], []⟩)
  (R := fun q => q ≤ cost.length /\ (cost.take q).all (fun c => decide (0 ≤ c) && decide (c ≤ 1048576)) = true) (m := fun q => cost.length - q) 0 [] rfl rfl ⟨rfl, rfl, rfl, trivial⟩ (by simp) ⟨Nat.zero_le _, rfl⟩ trivial ?_
 rintro q ⟨hq0, hall⟩
 refine KW.goIf qQ0 R0_ok 100 rfl (by simp) rfl trivial (fun h => ?_) fun h => ?_
 ·have hq : q < cost.length := by simp at h; omega
  have hg : cost.getD (Int.toNat (q : Int)) 0 = cost[q] := by simp [List.getD_eq_getElem?_getD, hq]
  have htk : cost.take (q + 1) = cost.take q ++ [cost[q]] := by rw [List.take_add_one, List.getElem?_eq_getElem hq]; rfl
  have htest : (decide (cost[q] < 0) || decide (1048576 < cost[q])) = !(decide (0 ≤ cost[q]) && decide (cost[q] ≤ 1048576)) := by
   rw [Bool.eq_iff_iff]; simp <;> omega
  refine KW.goIf qQ0 R0_ok 100 rfl (by simp; omega) rfl trivial (fun h => ?_) fun h => ?_
  ·have h5 : (decide (0 ≤ cost[q]) && decide (cost[q] ≤ 1048576)) = false := by
    have : (decide (cost.getD (Int.toNat (q : Int)) 0 < 0) || decide (1048576 < cost.getD (Int.toNat (q : Int)) 0)) = true := h
    rw [hg, htest, Bool.not_eq_true'] at this; exact this
   have h6 : (cost.all fun c => decide (0 ≤ c) && decide (c ≤ 1048576)) = false := by
    rw [List.all_eq_false]
    exact ⟨_, List.getElem_mem hq, by rw [h5]; decide⟩
   refine KW.goOutR qQ0 R0_ok 100 rfl (by simp) ?_
   refine KW.goRet qQ0 R0_ok 100 rfl rfl ?_ (by simp) trivial
   simp only [h6]; rfl
  ·have h5 : (decide (0 ≤ cost[q]) && decide (cost[q] ≤ 1048576)) = true := by
    have : (decide (cost.getD (Int.toNat (q : Int)) 0 < 0) || decide (1048576 < cost.getD (Int.toNat (q : Int)) 0)) = false := h
    rw [hg, htest, Bool.not_eq_false'] at this; exact this
   refine KW.goToR qQ0 R0_ok 100 rfl (q + 1) [] rfl rfl ⟨rfl, rfl, rfl, trivial⟩ (by simp [inK]; omega) ⟨⟨by omega, ?_⟩, by omega⟩ trivial
   rw [htk, List.all_append, hall]
   simp only [List.all_cons, List.all_nil, Bool.and_true, h5, Bool.true_and]
 ·have hq : q = cost.length := by simp at h; omega
  refine KW.goOut qQ0 R0_ok 100 rfl (by simp) ?_
  refine KW.goRet qQ0 R0_ok 100 rfl rfl ?_ (by simp) trivial
  rw [hq, List.take_length] at hall
  simp only [hall]; rfl
theorem sum_len {c : Nat -> Int} {s : Int} {k : Nat} (hk : k ≤ 24) (h : ∀ i, k ≤ i -> bit s i = false) : sumS c s = sumN c s k := by
 have : ∀ j, k + j ≤ 24 -> sumN c s (k + j) = sumN c s k := by
  intro j
  induction j with
  | zero => intro _; rfl
  | succ j ih =>
    intro hj
    rw [<-Nat.add_assoc, sumN, ih (by omega), h (k + j) (by omega)]; simp
 have := this (24 - k) (by omega)
 rw [show k + (24 - k) = 24 by omega] at this
 exact this
theorem elem_lt {s : Int} {k q : Nat} (h : inN k s) (hq : q < (qW1 s).length) : ∃ i : Nat, i < k /\ i < 24 /\ bit s i = true /\ (qW1 s)[q] = i := by
 obtain ⟨i, hi, hb, hx⟩ := mem_elemsS.1 (List.getElem_mem hq)
 exact ⟨i, Nat.lt_of_not_le fun h' => (by rw [h.2 i h'] at hb; cases hb), hi, hb, hx⟩
theorem part_sum {c : Int -> Int} {B : Int} (hB : 0 ≤ B) : ∀ (l : List Int), (∀ x ∈ l, 0 ≤ c x /\ c x ≤ B) -> 0 ≤ (l.map c).sum /\ (l.map c).sum ≤ l.length * B
 | [], _ => by simp
 | x :: l, h => by
   have h1 := h x (.head _)
   have h2 := part_sum hB l fun y hy => h y (.tail _ hy)
   simp only [List.map_cons, List.sum_cons, List.length_cons]
   have : ((l.length + 1 : Nat) : Int) * B = l.length * B + B := by rw [Int.natCast_add, Int.add_mul]; simp
   omega
theorem rcost57_does (x : CasP) (s : Int) (hx : CostB x) (hs : inN x.cost.length s) : DoesF Tryz.prog 39 [.ag (qV3 x), iV s] [] (sI (qV4 x s)) [] := by
 refine DoesF.body _ Tryz.func39 rfl rfl rfl rfl ?_
 have hl := hx.len
 have hc := hx.cost
 have he := fun q hq => elem_lt (q := q) hs hq
 have hle : (qW1 s).length ≤ 24 := elemsN_length s 24
 have hsum : ((qW1 s).map fun i => cst x i.toNat).sum = qV4 x s := by
  rw [qW1, sumN_elems]
  exact sum_len hl hs.2
 have hbd : ∀ q, 0 ≤ (((qW1 s).take q).map fun i => cst x i.toNat).sum /\ (((qW1 s).take q).map fun i => cst x i.toNat).sum ≤ 24 * 1048576 := fun q => by
  have := part_sum (c := fun i => cst x i.toNat) (B := 1048576) (by decide) ((qW1 s).take q) fun y _ => hc y.toNat
  have h2 : ((qW1 s).take q).length ≤ 24 := by simp; omega
  have h3 : ((((qW1 s).take q).length : Nat) : Int) * 1048576 ≤ 24 * 1048576 := Int.mul_le_mul_of_nonneg_right (by omega) (by decide)
  omega
 rw [<-hsum]
 obtain ⟨st, cost⟩ := x
 simp only at hl he
 refine KW.go qQ0 R0_ok 100 rfl (by simp) ?_
 dsimp only
 generalize qW1 s = L at *
 refine KW.goLpR qQ0 R0_ok 100 rfl (I := fun q : Nat => ⟨Tryz.f39.ntmps, [(2, .e (.r 2)), (5, sI ((L.take q).map fun i => cst ⟨st, cost⟩ i.toNat).sum), (9, .e (lV L)), (10, sI L.length), (11, sI q)], [(2, .box 27 [iV st, lV cost] none)]⟩)
  (R := fun q => q ≤ L.length) (m := fun q => L.length - q) 0 [(2, 2)] rfl rfl ⟨rfl, by rw [List.take_zero]; rfl, rfl, rfl, rfl, trivial⟩ (by simp) (Nat.zero_le _) ⟨rfl, trivial⟩ ?_
 intro q hq0
 have hbq := hbd q
 have hbq1 := hbd (q + 1)
 refine KW.goIf qQ0 R0_ok 100 rfl (by simp) rfl trivial (fun h => ?_) fun h => ?_
 ·have hq : q < L.length := by simp at h; omega
  obtain ⟨i, i1, i2, i3, i4⟩ := he q hq
  have hg : L.getD (Int.toNat (q : Int)) 0 = (i : Int) := by simp [List.getD_eq_getElem?_getD, hq, i4]
  have htk : L.take (q + 1) = L.take q ++ [(i : Int)] := by rw [List.take_add_one, List.getElem?_eq_getElem hq, i4]; rfl
  have hgc : cost.getD (Int.toNat (L.getD (Int.toNat (q : Int)) 0)) 0 = cst ⟨st, cost⟩ i := by rw [hg, Int.toNat_natCast]; rfl
  have hse : ((L.take (q + 1)).map fun i => cst ⟨st, cost⟩ i.toNat).sum = ((L.take q).map fun i => cst ⟨st, cost⟩ i.toNat).sum + cst ⟨st, cost⟩ i := by
   rw [htk, List.map_append, List.sum_append]
   simp
  have hci := hc i
  refine KW.goToR qQ0 R0_ok 100 rfl (q + 1) [(2, 2)] rfl rfl ⟨rfl, ?_, rfl, rfl, rfl, trivial⟩ ?_ ⟨by omega, by omega⟩ ⟨rfl, trivial⟩
  ·rw [hse, <-hgc]; rfl
  ·have hgc2 : cost.getD (Int.toNat (i : Int)) 0 = cst ⟨st, cost⟩ i := by rw [Int.toNat_natCast]; rfl
   simp only [hg, hgc2]
   rw [hse] at hbq1
   generalize (List.map (fun i => cst ⟨st, cost⟩ i.toNat) (List.take q L)).sum = U at hbq hbq1 ⊢
   simp [inK]
   omega
 ·have hq : q = L.length := by simp at h; omega
  subst hq
  refine KW.goOut qQ0 R0_ok 100 rfl (by simp) ?_
  refine KW.goRet qQ0 R0_ok 100 rfl rfl ?_ (by simp) trivial
  rw [List.take_length]; rfl
def qK5 (c : Nat -> Int) (acc : Int) : List Int -> Int
 | [] => acc
 | e :: r => qK5 c (if acc < 0 ∨ c e.toNat < acc then c e.toNat else acc) r
theorem leastE_append (c : Nat -> Int) : ∀ (a b : List Int) (acc : Int), qK5 c acc (a ++ b) = qK5 c (qK5 c acc a) b
 | [], _, _ => rfl
 | e :: a, b, acc => by rw [List.cons_append, qK5, qK5, leastE_append c a b]
theorem leastE_elems (c : Nat -> Int) (s : Int) : ∀ k, qK5 c (-1) (elemsN s k) = qK4 c s k
 | 0 => rfl
 | k + 1 => by
   rw [qD5, leastE_append, leastE_elems c s k, qK4]
   cases hb : bit s k with
   | false => simp [qK5]
   | true => simp [qK5]
theorem leastN_len (c : Nat -> Int) (s : Int) {k : Nat} (h : ∀ i, k ≤ i -> bit s i = false) : ∀ j, qK4 c s (k + j) = qK4 c s k
 | 0 => rfl
 | j + 1 => by
   rw [<-Nat.add_assoc, qK4, h (k + j) (by omega), if_neg fun h => by cases h.1]
   exact leastN_len c s h j
theorem leastE_bound {c : Nat -> Int} {B : Int} (hc : ∀ i, 0 ≤ c i /\ c i ≤ B) (hB : 0 ≤ B) : ∀ (l : List Int) (acc : Int), -1 ≤ acc -> acc ≤ B -> -1 ≤ qK5 c acc l /\ qK5 c acc l ≤ B
 | [], acc, h1, h2 => ⟨h1, h2⟩
 | e :: r, acc, h1, h2 => by
   rw [qK5]
   have := hc e.toNat
   exact leastE_bound hc hB r _ (by split <;> omega) (by split <;> omega)
theorem rleast57_does (x : CasP) (s : Int) (hx : CostB x) (hs : inN x.cost.length s) : DoesF Tryz.prog 43 [.ag (qV3 x), iV s] [] (sI (qK3 x s)) [] := by
 refine DoesF.body _ Tryz.func43 rfl rfl rfl rfl ?_
 have hl := hx.len
 have hc := hx.cost
 have he := fun q hq => elem_lt (q := q) hs hq
 have hle : (qW1 s).length ≤ 24 := elemsN_length s 24
 have hsum : qK5 (cst x) (-1) (qW1 s) = qK3 x s := by
  rw [qW1, leastE_elems, qK3, <-leastN_len (cst x) s hs.2 (24 - x.cost.length), Nat.add_sub_cancel' hl]
 have hbd : ∀ q, -1 ≤ qK5 (cst x) (-1) ((qW1 s).take q) /\ qK5 (cst x) (-1) ((qW1 s).take q) ≤ 1048576 := fun q => leastE_bound hc (by decide) _ _ (by decide) (by decide)
 rw [<-hsum]
 obtain ⟨st, cost⟩ := x
 simp only at hl he
 refine KW.go qQ0 R0_ok 100 rfl (by simp) ?_
 dsimp only
 generalize qW1 s = L at *
 refine KW.goLpR qQ0 R0_ok 100 rfl (I := fun q : Nat => ⟨Tryz.f43.ntmps, [(2, .e (.r 2)), (5, sI (qK5 (cst ⟨st, cost⟩) (-1) (L.take q))), (9, .e (lV L)), (10, sI L.length), (11, sI q)], [(2, .box 27 [iV st, lV cost] none)]⟩)
  (R := fun q => q ≤ L.length) (m := fun q => L.length - q) 0 [(2, 2)] rfl rfl ⟨rfl, by rw [List.take_zero]; rfl, rfl, rfl, rfl, trivial⟩ (by simp) (Nat.zero_le _) ⟨rfl, trivial⟩ ?_
 intro q hq0
 have hbq := hbd q
 refine KW.goIf qQ0 R0_ok 100 rfl (by simp) rfl trivial (fun h => ?_) fun h => ?_
 ·have hq : q < L.length := by simp at h; omega
  obtain ⟨i, i1, i2, i3, i4⟩ := he q hq
  have hg : L.getD (Int.toNat (q : Int)) 0 = (i : Int) := by simp [List.getD_eq_getElem?_getD, hq, i4]
  have htk : L.take (q + 1) = L.take q ++ [(i : Int)] := by rw [List.take_add_one, List.getElem?_eq_getElem hq, i4]; rfl
  have hgc : cost.getD (Int.toNat (i : Int)) 0 = cst ⟨st, cost⟩ i := by rw [Int.toNat_natCast]; rfl
  have hse : qK5 (cst ⟨st, cost⟩) (-1) (L.take (q + 1)) = if qK5 (cst ⟨st, cost⟩) (-1) (L.take q) < 0 ∨ cst ⟨st, cost⟩ i < qK5 (cst ⟨st, cost⟩) (-1) (L.take q) then cst ⟨st, cost⟩ i else qK5 (cst ⟨st, cost⟩) (-1) (L.take q) := by
   rw [htk, leastE_append, qK5, qK5, Int.toNat_natCast]
  have hci := hc i
  refine KW.goIf qQ0 R0_ok 100 rfl ?_ rfl trivial (fun h => ?_) fun h => ?_
  ·simp only [hg]
   generalize qK5 (cst ⟨st, cost⟩) (-1) (L.take q) = U at hbq ⊢
   simp [inK, hq]
   omega
  ·have h1 : qK5 (cst ⟨st, cost⟩) (-1) (L.take q) < 0 ∨ cst ⟨st, cost⟩ i < qK5 (cst ⟨st, cost⟩) (-1) (L.take q) := by
    have e : (decide (qK5 (cst ⟨st, cost⟩) (-1) (L.take q) < 0) || decide (cost.getD (Int.toNat (L.getD (Int.toNat (q : Int)) 0)) 0 < qK5 (cst ⟨st, cost⟩) (-1) (L.take q))) = true := h
    rw [hg, hgc, Bool.or_eq_true, decide_eq_true_iff, decide_eq_true_iff] at e
    exact e
   rw [if_pos h1] at hse
   refine KW.goToR qQ0 R0_ok 100 rfl (q + 1) [(2, 2)] rfl rfl ⟨rfl, ?_, rfl, rfl, rfl, trivial⟩ ?_ ⟨by omega, by omega⟩ ⟨rfl, trivial⟩
   ·rw [hse, <-hgc, <-hg]; rfl
   ·simp only [hg]
    simp [inK]
    omega
  ·have h1 : ¬ (qK5 (cst ⟨st, cost⟩) (-1) (L.take q) < 0 ∨ cst ⟨st, cost⟩ i < qK5 (cst ⟨st, cost⟩) (-1) (L.take q)) := by
    have e : (decide (qK5 (cst ⟨st, cost⟩) (-1) (L.take q) < 0) || decide (cost.getD (Int.toNat (L.getD (Int.toNat (q : Int)) 0)) 0 < qK5 (cst ⟨st, cost⟩) (-1) (L.take q))) = false := h
    rw [hg, hgc, Bool.or_eq_false_iff, decide_eq_false_iff_not, decide_eq_false_iff_not] at e
    exact fun h' => h'.elim e.1 e.2
   rw [if_neg h1] at hse
   refine KW.goToR qQ0 R0_ok 100 rfl (q + 1) [(2, 2)] rfl rfl ⟨rfl, by rw [hse]; rfl, rfl, rfl, rfl, trivial⟩ (by simp [inK]; omega) ⟨by omega, by omega⟩ ⟨rfl, trivial⟩
 ·have hq : q = L.length := by simp at h; omega
  subst hq
  refine KW.goOut qQ0 R0_ok 100 rfl (by simp) ?_
  refine KW.goRet qQ0 R0_ok 100 rfl rfl ?_ (by simp) trivial
  rw [List.take_length]; rfl
theorem rheals57_does (f : FormP) (x : CasP) (s : Int) (hin : FormIn f) (h0 : qJ2 f = 0) : DoesF Tryz.prog 38 [.ag (qX5 f), .ag (qV3 x), iV s] [] (sB (healB f x s)) [] := by
 refine DoesF.body _ Tryz.func38 rfl rfl rfl rfl ?_
 obtain ⟨vars, ns, top⟩ := f
 obtain ⟨st, cost⟩ := x
 refine KW.goRet qQ0 R0_ok 100 rfl rfl ?_ ?_ trivial
 ·simp only [SV.ren, EV.ren, qQ1, healB]
  congr 4
 ·simp only [qQ1, qQ5, true_and, and_true]
  simp [hin, h0]
def R1 : Fns := (37, fFX (fun f x => sI (casE f x)) fun f _ => FormIn f) ::
 (39, fXI (fun x s => sI (qV4 x s)) fun x s => CostB x /\ inN x.cost.length s) ::
 (43, fXI (fun x s => sI (qK3 x s)) fun x s => CostB x /\ inN x.cost.length s) ::
 (38, fFXI (fun f x s => sB (healB f x s)) fun f _ _ => FormIn f /\ qJ2 f = 0) ::
 R0
theorem qX7 : FnsOk Tryz.prog R1 := .cons (.cons (.cons (.cons (R0_ok) Tryz.func38 rfl rfl (fFXI_ok fun f x s h => rheals57_does f x s h.1 h.2)) Tryz.func43 rfl rfl (fXI_ok fun x s h => rleast57_does x s h.1 h.2)) Tryz.func39 rfl rfl (fXI_ok fun x s h => rcost57_does x s h.1 h.2)) Tryz.func37 rfl rfl (fFX_ok fun f x h => rerror57_does f x h)
end Go.Proofs.YtgoilpfpmbjegaaGreatDoor
end
section
namespace Go.Proofs.YtgoilpfpmbjegaaGreatDoor
open Go.Sy Go.Pu Go.Proofs.YtgoilpfpmbjegaaGreatDoor.Tr
variable [Drw]
def seB (f : FormP) (x : CasP) (y : SS) : List EV := [iV f.vars, .c (qJ9 f.nodes), iV f.top, iV x.state, lV x.cost, iV y.best, iV y.total, bV y.found, eV 0]
abbrev seR (f : FormP) (x : CasP) (y : SS) (b : Nat) : List (Nat × Res) := [(0, .box 75 (seB f x y) (some b))]
theorem worse_does (f : FormP) (x : CasP) (y : SS) (b : Nat) (s total : Int) : DoesF Tryz.prog 72 [.r 0, iV s, iV total] (seR f x y b) (sB (!betB y s total)) (seR f x y b) := by
 refine DoesF.body _ Tryz.func72 rfl rfl rfl rfl ?_
 refine KW.goIf qQ0 qX7 100 rfl (by simp) rfl trivial (fun h => ?_) fun h => ?_
 ·have h' : (!y.found || decide (total ≠ y.total)) = true := by simpa using h
  refine KW.goRetR qQ0 qX7 100 rfl [(0, 0)] rfl rfl ?_ (by simp) (by exact ⟨rfl, trivial⟩)
  unfold betB
  rw [if_pos h']
  simp [SV.ren, EV.ren]
  cases hf : y.found <;> simp [hf] at h' ⊢
  rw [Bool.eq_iff_iff]
  simp
  omega
 ·have h' : ¬ (!y.found || decide (total ≠ y.total)) = true := by simpa using h
  refine KW.goRetR qQ0 qX7 100 rfl [(0, 0)] rfl rfl ?_ (by simp) (by exact ⟨rfl, trivial⟩)
  unfold betB
  rw [if_neg h']
  simp [SV.ren, EV.ren]
  rw [Bool.eq_iff_iff]
  simp
theorem skip_n (st : Int) (n : Nat) : skipB st n n = n := by
 obtain ⟨h1, h2, h3⟩ := skip_spec (state := st) (n := n) (i := n)
 refine Classical.byContradiction fun hne => ?_
 have := (h2 (by omega)).1
 omega
theorem skip_hit {st : Int} {n q : Nat} (hq : q < n) (hb : bit st q = true) : skipB st n q = q := by
 obtain ⟨h1, h2, h3⟩ := skip_spec (state := st) (n := n) (i := q)
 rcases Nat.lt_trichotomy (skipB st n q) q with h | h | h
 ·have := (h2 (by omega)).1; omega
 ·exact h
 ·rw [h3 q (Nat.le_refl _) h] at hb; cases hb
theorem skip_step {st : Int} {n q : Nat} (hq : q < n) (hb : bit st q = false) : skipB st n (q + 1) = skipB st n q := by
 obtain ⟨a1, a2, a3⟩ := skip_spec (state := st) (n := n) (i := q)
 obtain ⟨b1, b2, b3⟩ := skip_spec (state := st) (n := n) (i := q + 1)
 generalize skipB st n q = a at *
 generalize skipB st n (q + 1) = c at *
 rcases Nat.lt_trichotomy a c with h | h | h
 ·exfalso
  obtain ⟨g1, g2⟩ := a2 (by omega)
  by_cases e : a = q
  ·rw [e, hb] at g2; cases g2
  ·rw [b3 a (by omega) h] at g2; cases g2
 ·exact h.symm
 ·exfalso
  obtain ⟨g1, g2⟩ := b2 (by omega)
  rw [a3 c (by omega) h] at g2; cases g2
theorem state_in {f : FormP} {x : CasP} {n : Nat} (h : CasOk f x n) {s : Int} (hs : inN n s) : qB5 f s = 0 /\ valV f s = qJ5 f s := by
 have h0 := (pathE_ok h.pe).1
 have := (inN_iff h.n24).1 hs
 have e := stateE_eq h0 ⟨this.1, by rw [h.vars, qC4]; exact this.2⟩
 exact ⟨e, by simp [valV, e]⟩
theorem shr_bit0 (s : Int) {q : Nat} (hq : q < 24) : (qK9 .i64 (ishr s (q : Int)) 1 == 0) = !bit s q := by
 rw [ishr_bit s (by omega)]
 cases bit s q <;> rfl
theorem qX2 (f : FormP) : (⟨f.vars, f.nodes, f.top⟩ : FormP) = f := rfl
set_option maxHeartbeats 3200000 in
theorem from57_does {f : FormP} {x : CasP} {n : Nat} (ok : CasOk f x n) (hin : FormIn f) : ∀ (k i : Nat) (set total : Int) (y : SS) (b : Nat), n < i + k -> i ≤ n -> qQ6 set = true -> (∀ j, i ≤ j -> bit set j = false) -> total = sumS (cst x) set ->
  DoesF Tryz.prog 33 [.r 0, iV i, iV set, iV total] (seR f x y b) (.tup []) (seR f x (rsF (qJ5 f) (cst x) x.state n k i set total y) b) := by
 intro k
 induction k with
 | zero => intro i set total y b hk hi; omega
 | succ k ih =>
 intro i set total y b hk hi hsv hab htot
 have hn24 := ok.n24
 have hbd := sumN_bound (c := cst x) (B := 1048576) (by decide) (fun i _ => ok.cost i) set 24 (Nat.le_refl _)
 rw [show sumN (cst x) set 24 = sumS (cst x) set from rfl, <-htot] at hbd
 refine DoesF.body _ Tryz.func33 rfl rfl rfl rfl ?_
 rw [rsF]
 refine KW.goD qQ0 qX7 rfl 100 rfl (by decide +kernel) rfl (by simp) ?_ ?_
 ·simp +contextual
 have htest : (!qY4 (errV 57 0) || y.found && (decide (y.total < total) || total == y.total && decide (cntS y.best < cntS set))) = pruneB y set total := by
  unfold pruneB
  rw [Bool.eq_iff_iff]
  simp
 refine KW.goIf qQ0 qX7 100 rfl (by simp) rfl trivial (fun h => ?_) fun h => ?_
 ·have h1 : pruneB y set total = true := htest.symm.trans h
  rw [if_pos h1]
  exact KW.goRetR qQ0 qX7 100 rfl [(0, 0)] rfl rfl rfl (by simp) (by exact ⟨rfl, trivial⟩)
 have h1 : ¬ pruneB y set total = true := by rw [show pruneB y set total = false from htest.symm.trans h]; decide
 rw [if_neg h1]
 clear h htest
 have hi24 : (i : Int) ≤ 24 := by omega
 have hsh := shl_v (vars := (i : Int)) (by omega) hi24
 have hA := qW7 (y := ior .i64 set (qQ4 .i64 x.state (qW0 1 (i : Int) - 1))) hn24 ok.st
 have hB := qW7 (y := set) hn24 ok.st
 obtain ⟨a1, a2⟩ := state_in ok hA
 obtain ⟨b1, b2⟩ := state_in ok hB
 refine KW.goD qQ0 qX7 rfl 100 rfl (by decide +kernel) rfl (by simp) ?_ ?_
 ·simp [inK, qC0]
  omega
 refine KW.goD qQ0 qX7 rfl 100 rfl (by decide +kernel) rfl (by simp) ?_ ?_
 ·simp only [qQ1, qQ5, qX2, true_and, and_true]
  simp [hin]
 simp only [qQ1, qX2, a1, a2]
 refine KW.goIf qQ0 qX7 100 rfl (by simp) rfl trivial (fun h => absurd h (by simp)) fun h => ?_
 refine KW.goIf qQ0 qX7 100 rfl (by simp) rfl trivial (fun h => ?_) fun h => ?_
 ·rw [if_pos h]
  exact KW.goRetR qQ0 qX7 100 rfl [(0, 0)] rfl rfl rfl (by simp) (by exact ⟨rfl, trivial⟩)
 rw [if_neg (by rw [h]; decide)]
 refine KW.goD qQ0 qX7 rfl 100 rfl (by decide +kernel) rfl (by simp) ?_ ?_
 ·simp only [qQ1, qQ5, qX2, true_and, and_true]
  simp [hin]
 simp only [qQ1, qX2, b1, b2]
 refine KW.goIf qQ0 qX7 100 rfl (by simp) rfl trivial (fun h => absurd h (by simp)) fun h => ?_
 refine KW.goIf qQ0 qX7 100 rfl (by simp) rfl trivial (fun h => ?_) fun h => ?_
 ·have h3 : qJ5 f (qQ4 .i64 x.state set) = false := by rw [Bool.not_eq_true'] at h; exact h
  rw [if_pos h3]
  refine KW.go qQ0 qX7 100 rfl (by simp) ?_
  refine KW.call0 (worse_does f x y b set total) (qQ9 Tryz.func72 rfl rfl) [(0, 0)] [(0, 0)] [] (.inl rfl) rfl rfl rfl rfl rfl trivial
   ⟨⟨_, _, rfl, trivial, (show Mt _ _ _ (EV.ren [(0, 0)] (.r 0)) (.r 0) from .same)⟩, ⟨_, _, rfl, trivial, .conv (CVEq.refl _)⟩, ⟨_, _, rfl, trivial, .conv (CVEq.refl _)⟩, trivial⟩ rfl ⟨rfl, trivial⟩ rfl ⟨.inr ⟨rfl, .inr ⟨_, _, _, _, b, rfl, rfl⟩⟩, trivial⟩ rfl rfl (.inl rfl) ?_
  refine KW.goIf qQ0 qX7 100 rfl (by simp) rfl trivial (fun h => ?_) fun h => ?_
  ·have h5 : betB y set total = true := by
    have : (!(!betB y set total)) = true := h
    simpa using this
   rw [if_pos h5]
   exact KW.goRetR qQ0 qX7 100 rfl [(0, 0)] rfl rfl rfl (by simp) (by exact ⟨rfl, trivial⟩)
  ·have h5 : ¬ betB y set total = true := by
    have : (!(!betB y set total)) = false := h
    simpa using this
   rw [if_neg h5]
   exact KW.goRetR qQ0 qX7 100 rfl [(0, 0)] rfl rfl rfl (by simp) (by exact ⟨rfl, trivial⟩)
 have h3 : ¬ qJ5 f (qQ4 .i64 x.state set) = false := by rw [Bool.not_eq_false'] at h; rw [h]; decide
 rw [if_neg h3]
 clear h h3
 have hvn := ok.vars
 have hst24 := ok.st
 refine KW.goLpR qQ0 qX7 100 rfl (I := fun q : Nat => ⟨Tryz.f33.ntmps, [(0, .e (.r 0)), (1, sI q), (2, sI set), (3, sI total)], seR f x y b⟩)
  (R := fun q => i ≤ q /\ q ≤ n /\ skipB x.state n q = skipB x.state n i) (m := fun q => n - q) i [(0, 0)] rfl rfl ⟨rfl, rfl, rfl, rfl, trivial⟩ (by simp) ⟨Nat.le_refl _, hi, rfl⟩ ⟨rfl, trivial⟩ ?_
 rintro q ⟨g1, g2, g3⟩
 refine KW.goIf qQ0 qX7 100 rfl ?_ rfl trivial (fun h => ?_) fun h => ?_
 ·simp [inK, qC0]
  omega
 ·have h' : (decide ((q : Int) < f.vars) && (qK9 .i64 (ishr x.state (q : Int)) 1 == 0)) = true := h
  rw [Bool.and_eq_true, decide_eq_true_iff] at h'
  have hqn : q < n := by omega
  have hb : bit x.state q = false := by
   have := (shr_bit0 x.state (q := q) (by omega)).symm.trans h'.2
   rwa [Bool.not_eq_true'] at this
  exact KW.goToR qQ0 qX7 100 rfl (q + 1) [(0, 0)] rfl rfl ⟨rfl, rfl, rfl, rfl, trivial⟩ (by simp [inK]; omega) ⟨⟨by omega, by omega, (skip_step hqn hb).trans g3⟩, by omega⟩ ⟨rfl, trivial⟩
 ·have h' : (decide ((q : Int) < f.vars) && (qK9 .i64 (ishr x.state (q : Int)) 1 == 0)) = false := h
  rw [Bool.and_eq_false_iff, decide_eq_false_iff_not] at h'
  have hskq : skipB x.state n i = q := by
   rw [<-g3]
   by_cases hqn : q < n
   ·have hb : bit x.state q = true := by
     rcases h' with h' | h'
     ·omega
     ·have := (shr_bit0 x.state (q := q) (by omega)).symm.trans h'
      rwa [Bool.not_eq_false'] at this
    exact skip_hit hqn hb
   ·rw [show q = n by omega]; exact skip_n _ _
  rw [hskq]
  clear h h' g3
  refine KW.goOut qQ0 qX7 100 rfl (by simp) ?_
  refine KW.goIf qQ0 qX7 100 rfl (by simp) rfl trivial (fun h => ?_) fun h => ?_
  ·have hq : q = n := by simp at h; omega
   rw [if_pos hq]
   exact KW.goRetR qQ0 qX7 100 rfl [(0, 0)] rfl rfl rfl (by simp) (by exact ⟨rfl, trivial⟩)
  have hq : ¬ q = n := by simp at h; omega
  rw [if_neg hq]
  have hq24 : q < 24 := by omega
  have hb0 : bit set q = false := hab q g1
  have hsum : sumS (cst x) (ior .i64 set (Go.Pu.one q)) = total + cst x q := by rw [sumS_ior hb0 hq24, htot]
  have hshq := shl_rng24 (v := (q : Int)) (by omega) (by omega)
  have hone : Go.Pu.one q = qW0 1 (q : Int) := rfl
  have hlen := ok.len
  have hcq := ok.cost q
  have hgc : x.cost.getD (Int.toNat (q : Int)) 0 = cst x q := by rw [Int.toNat_natCast]; rfl
  have D1 := ih (q + 1) (ior .i64 set (Go.Pu.one q)) (total + cst x q) y b (by omega) (by omega) (valid_ior hsv (one_valid hq24)) (fun j hj => by rw [qK1, hab j (by omega), one_bit hq24, decide_eq_false (by omega)]; rfl) hsum.symm
  have D2 := ih (q + 1) set total (rsF (qJ5 f) (cst x) x.state n k (q + 1) (ior .i64 set (Go.Pu.one q)) (total + cst x q) y) b (by omega) (by omega) hsv (fun j hj => hab j (by omega)) htot
  generalize rsF (qJ5 f) (cst x) x.state n k (q + 1) (ior .i64 set (Go.Pu.one q)) (total + cst x q) y = y1 at *
  generalize rsF (qJ5 f) (cst x) x.state n k (q + 1) set total y1 = y2 at *
  rw [show ((q + 1 : Nat) : Int) = (q : Int) + 1 by omega] at D1 D2
  refine KW.goDT qQ0 qX7 rfl 100 rfl 17 rfl rfl (by decide +kernel) rfl rfl (by simp) ?_ ?_
  ·simp only [hgc, inK, qC0, true_and, and_true]
   simp
   omega
  simp only [hgc]
  refine KW.call0 D1 (qQ9 Tryz.func33 rfl rfl) [(0, 0)] [(0, 0)] [] (.inl rfl) rfl rfl rfl rfl rfl trivial
   ⟨⟨_, _, rfl, trivial, (show Mt _ _ _ (EV.ren [(0, 0)] (.r 0)) (.r 0) from .same)⟩, ⟨_, _, rfl, trivial, .conv (CVEq.refl _)⟩, ⟨_, _, rfl, trivial, .conv (CVEq.refl _)⟩, ⟨_, _, rfl, trivial, .conv (CVEq.refl _)⟩, trivial⟩ rfl ⟨rfl, trivial⟩ rfl ⟨.inr ⟨rfl, .inr ⟨_, _, _, _, b, rfl, rfl⟩⟩, trivial⟩ rfl rfl (.inl rfl) ?_
  refine KW.go qQ0 qX7 100 rfl (by simp [inK]; omega) ?_
  refine KW.call0 D2 (qQ9 Tryz.func33 rfl rfl) [(0, 0)] [(0, 0)] [] (.inl rfl) rfl rfl rfl rfl rfl trivial
   ⟨⟨_, _, rfl, trivial, (show Mt _ _ _ (EV.ren [(0, 0)] (.r 0)) (.r 0) from .same)⟩, ⟨_, _, rfl, trivial, .conv (CVEq.refl _)⟩, ⟨_, _, rfl, trivial, .conv (CVEq.refl _)⟩, ⟨_, _, rfl, trivial, .conv (CVEq.refl _)⟩, trivial⟩ rfl ⟨rfl, trivial⟩ rfl ⟨.inr ⟨rfl, .inr ⟨_, _, _, _, b, rfl, rfl⟩⟩, trivial⟩ rfl rfl (.inl rfl) ?_
  refine KW.go qQ0 qX7 100 rfl (by simp) ?_
  exact KW.finN [(0, 0)] rfl rfl rfl ⟨rfl, trivial⟩
end Go.Proofs.YtgoilpfpmbjegaaGreatDoor
end
section
namespace Go.Proofs.YtgoilpfpmbjegaaGreatDoor
open Go.Sy Go.Pu Go.Proofs.YtgoilpfpmbjegaaGreatDoor.Tr
variable [Drw]
set_option maxHeartbeats 1600000 in
theorem cheapest57_does (f : FormP) (x : CasP) (hin : FormIn f) : DoesF Tryz.prog 11 [.ag (qX5 f), .ag (qV3 x)] [] (.tup [iV (cheV f x).1, iV (cheV f x).2.1, eV (cheV f x).2.2]) [] := by
 refine DoesF.body _ Tryz.func11 rfl rfl rfl rfl ?_
 refine KW.goIf qQ0 qX7 100 rfl (by simp only [qQ1, qQ5, qQ2, qQ8, true_and, and_true, qQ7]; exact hin) rfl trivial (fun h => ?_) fun h => ?_
 ·have h1 : casE f x ≠ 0 := by simpa [qQ1] using h
  refine KW.goRet qQ0 qX7 100 rfl rfl ?_ (by simp) trivial
  rw [cheV, if_neg h1]; simp only [qQ1, qQ2]; rfl
 have h1 : casE f x = 0 := by simpa [qQ1] using h
 obtain ⟨n, ok⟩ := casE_ok h1
 have h0 := (pathE_ok ok.pe).1
 rw [cheV, if_pos h1]
 refine KW.goIf qQ0 qX7 100 rfl (by simp only [qQ1, qQ5, true_and, and_true, qQ7]; exact ⟨hin, h0⟩) rfl trivial (fun h => ?_) fun h => ?_
 ·have h2 : posE f ≠ 0 := by simpa [qQ1] using h
  refine KW.goRet qQ0 qX7 100 rfl rfl ?_ (by simp) trivial
  rw [if_neg h2]; simp only [qQ1]; rfl
 have h2 : posE f = 0 := by simpa [qQ1] using h
 rw [if_pos h2]
 refine KW.go qQ0 qX7 100 rfl (by simp) ?_
 refine KW.name 9 rfl fun b => ?_
 have D := from57_does ok hin (n + 1) 0 0 0 ⟨0, 0, false⟩ b (by omega) (Nat.zero_le _) valid0 (fun j _ => by simp) (sum0 _).symm
 have hrs : rsF (qJ5 f) (cst x) x.state n (n + 1) 0 0 0 ⟨0, 0, false⟩ = rsV f x := by
  unfold rsV
  have := ok.vars
  rw [show f.vars.toNat = n by omega]
 rw [hrs] at D
 refine KW.call0 D (qQ9 Tryz.func33 rfl rfl) [(0, 9)] [(0, 9)] [] (.inl rfl) rfl rfl rfl rfl rfl trivial
  ⟨⟨_, _, rfl, trivial, (show Mt _ _ _ (EV.ren [(0, 9)] (.r 0)) (.r 0) from .same)⟩, ⟨_, _, rfl, trivial, .conv (CVEq.refl _)⟩, ⟨_, _, rfl, trivial, .conv (CVEq.refl _)⟩, ⟨_, _, rfl, trivial, .conv (CVEq.refl _)⟩, trivial⟩ rfl ⟨rfl, trivial⟩ rfl ⟨.inr ⟨rfl, .inr ⟨_, _, _, _, b, rfl, rfl⟩⟩, trivial⟩ rfl rfl (.inl rfl) ?_
 refine KW.goIf qQ0 qX7 100 rfl (by simp) rfl trivial (fun h => absurd h (by simp)) fun h => ?_
 refine KW.goD qQ0 qX7 rfl 100 rfl (by decide +kernel) rfl (by simp) (by simp) ?_
 exact KW.goRet qQ0 qX7 100 rfl rfl rfl (by simp) trivial
theorem qX0 (x : CasP) : (⟨x.state, x.cost⟩ : CasP) = x := rfl
theorem price_bd {f : FormP} {x : CasP} {n : Nat} (ok : CasOk f x n) (s : Int) : 0 ≤ qV4 x s /\ qV4 x s ≤ 25165824 := by
 have h1 := ok.len
 have h2 := ok.n24
 have := sumN_bound (c := cst x) (B := 1048576) (by decide) (fun i _ => ok.cost i) s x.cost.length (by omega)
 unfold qV4
 omega
set_option maxHeartbeats 3200000 in
theorem rcheapest57_does (f : FormP) (x : CasP) (hin : FormIn f) : DoesF Tryz.prog 13 [.ag (qX5 f), .ag (qV3 x)] [] (.tup [iV (cheV f x).1, iV (cheV f x).2.1, iV (cheV f x).2.2]) [] := by
 refine DoesF.body _ Tryz.func13 rfl rfl rfl rfl ?_
 refine KW.goIf qQ0 qX7 100 rfl (by simp only [qQ1, qQ5, qQ2, qQ8, true_and, and_true]; exact hin) rfl trivial (fun h => ?_) fun h => ?_
 ·have h1 : casE f x ≠ 0 := by simpa [qQ1] using h
  refine KW.goRet qQ0 qX7 100 rfl rfl ?_ (by simp) trivial
  rw [cheV, if_neg h1]; simp only [qQ1, qQ2]; rfl
 have h1 : casE f x = 0 := by simpa [qQ1] using h
 obtain ⟨n, ok⟩ := casE_ok h1
 have h0 := (pathE_ok ok.pe).1
 have hn24 := ok.n24
 have hst := (inN_iff hn24).1 ok.st
 have hpow : ((2 ^ n : Nat) : Int) ≤ 16777216 := by
  have : 2 ^ n ≤ 2 ^ 24 := Nat.pow_le_pow_right (by decide) hn24
  omega
 have hlen := ok.len
 have hin2 : ∀ s, 0 ≤ s -> s ≤ x.state -> inN x.cost.length s := fun s a b => by rw [hlen]; exact (inN_iff hn24).2 ⟨a, by omega⟩
 have hps : ∀ s, 0 ≤ s -> s ≤ x.state -> qV4 x s = sumS (cst x) s := fun s a b => price_sum ok (hlen ▸ hin2 s a b)
 have hcb := ok.costB
 have hpb := price_bd ok
 rw [cheV, if_pos h1]
 refine KW.goLpR qQ0 qX7 100 rfl (I := fun q : Nat × Int => ⟨Tryz.f13.ntmps, [(2, .e (.r 2)), (3, .e (.r 3)), (8, sI q.2), (18, sI (x.state + 1)), (19, sI q.1)], [(2, .box 24 [iV f.vars, .c (qJ9 f.nodes), iV f.top] none), (3, .box 27 [iV x.state, lV x.cost] none)]⟩)
  (R := fun q => q.1 ≤ x.state.toNat + 1 /\ BestTo f x q.1 q.2) (m := fun q => x.state.toNat + 1 - q.1) (0, -1) [(2, 2), (3, 3)] rfl rfl ⟨rfl, rfl, rfl, rfl, rfl, trivial⟩ (by simp [inK]; omega) ⟨Nat.zero_le _, .inl ⟨rfl, fun t ht => absurd ht (Nat.not_lt_zero _)⟩⟩ ⟨rfl, rfl, trivial⟩ ?_
 rintro ⟨q, b⟩ ⟨g1, g2⟩
 simp only at g1 g2
 refine KW.goIf qQ0 qX7 100 rfl (by simp) rfl trivial (fun h => ?_) fun h => ?_
 ·have hq : (q : Int) ≤ x.state := by simp at h; omega
  have iq := hin2 q (by omega) hq
  have pq := hps q (by omega) hq
  cases hh : healB f x (q : Int) with
  | false =>
    refine KW.goIf qQ0 qX7 100 rfl ?_ rfl trivial (fun h => ?_) fun h => absurd h ?_
    ·simp only [qQ1, qQ5, qQ2, qQ8, true_and, and_true]
     exact ⟨hin, h0⟩
    ·exact KW.goToR qQ0 qX7 100 rfl (q + 1, b) [(2, 2), (3, 3)] rfl rfl ⟨rfl, rfl, rfl, rfl, rfl, trivial⟩ (by simp [inK]; omega) ⟨⟨by simp only; omega, best_skip g2 hh⟩, by simp only; omega⟩ ⟨rfl, rfl, trivial⟩
    ·simp only [qQ1, qQ2, qX2]
     show ¬ ((!healB f x (q : Int)) = false)
     rw [hh]; decide
  | true =>
    have hbr : 0 ≤ b -> b ≤ x.state := fun hb0 => by
     rcases g2 with ⟨e, _⟩ | ⟨_, e, _⟩
     ·omega
     ·omega
    have ib : 0 ≤ b -> inN x.cost.length b := fun hb0 => hin2 b hb0 (hbr hb0)
    have pb : 0 ≤ b -> qV4 x b = sumS (cst x) b := fun hb0 => hps b hb0 (hbr hb0)
    refine KW.goIf qQ0 qX7 100 rfl ?_ rfl trivial (fun h => absurd h ?_) fun h => ?_
    ·simp only [qQ1, qQ5, qQ2, qQ8, true_and, and_true]
     exact ⟨hin, h0⟩
    ·simp only [qQ1, qQ2, qX2]
     show ¬ ((!healB f x (q : Int)) = true)
     rw [hh]; decide
    clear h
    refine KW.goD qQ0 qX7 rfl 100 rfl (by decide +kernel) rfl (by simp) ?_ ?_
    ·simp only [qQ2, qQ8, qX0]
     simp +contextual [hcb, iq, ib]
    simp only [qQ2, qX0]
    have htest : (decide (b < 0) || decide (qV4 x (q : Int) < qV4 x b) || qV4 x (q : Int) == qV4 x b && decide (cmpS (q : Int) b < 0)) = decide (b < 0 ∨ sumS (cst x) q < sumS (cst x) b ∨ (sumS (cst x) q = sumS (cst x) b /\ cmpS (q : Int) b < 0)) := by
     rw [pq]
     by_cases hb0 : 0 ≤ b
     ·rw [pb hb0, Bool.eq_iff_iff]
      simp [or_assoc]
     ·have hb1 : b < 0 := by omega
      simp [hb1]
    refine KW.goIf qQ0 qX7 100 rfl (by simp) rfl trivial (fun h => ?_) fun h => ?_
    ·have hu := of_decide_eq_true (htest.symm.trans h)
     refine KW.goToR qQ0 qX7 100 rfl (q + 1, (q : Int)) [(2, 2), (3, 3)] rfl rfl ⟨rfl, rfl, rfl, rfl, rfl, trivial⟩ (by simp [inK]; omega) ⟨⟨by simp only; omega, best_take g2 hh hu⟩, by simp only; omega⟩ ⟨rfl, rfl, trivial⟩
    ·have hu := of_decide_eq_false (htest.symm.trans h)
     refine KW.goToR qQ0 qX7 100 rfl (q + 1, b) [(2, 2), (3, 3)] rfl rfl ⟨rfl, rfl, rfl, rfl, rfl, trivial⟩ (by simp [inK]; omega) ⟨⟨by simp only; omega, best_keep g2 hh hu⟩, by simp only; omega⟩ ⟨rfl, rfl, trivial⟩
 ·have hq : q = x.state.toNat + 1 := by simp at h; omega
  subst hq
  have he := best_end ok g2
  refine KW.goOut qQ0 qX7 100 rfl (by simp) ?_
  refine KW.goIf qQ0 qX7 100 rfl (by simp) rfl trivial (fun h => ?_) fun h => ?_
  ·have hb0 : b < 0 := by simpa using h
   have hp0 : posE f ≠ 0 := by
    rcases he with ⟨_, h⟩ | ⟨h, _, _⟩
    ·exact h
    ·omega
   have e17 : posE f = 17 := by
    unfold posE at hp0 ⊢
    split
    ·rfl
    ·rename_i hne; exact absurd (if_neg hne) hp0
   refine KW.goRet qQ0 qX7 100 rfl rfl ?_ (by simp) trivial
   rw [if_neg hp0, e17]; rfl
  ·have hb0 : 0 ≤ b := by simp at h; omega
   obtain ⟨hp0, hbe⟩ : posE f = 0 /\ b = (rsV f x).best := by
    rcases he with ⟨h, _⟩ | ⟨_, h1, h2⟩
    ·omega
    ·exact ⟨h1, h2⟩
   obtain ⟨c1, c2, c3, c4⟩ := qB9 ok hp0
   rw [<-hbe] at c1 c3
   refine KW.goRet qQ0 qX7 100 rfl rfl ?_ ?_ trivial
   ·simp only [qQ2, qX0, SV.ren, EV.ren]
    rw [if_pos hp0, price_sum ok c1, <-c3, hbe]; rfl
   ·simp only [qQ2, qQ8, qX0]
    simp [hcb, hlen, c1]
end Go.Proofs.YtgoilpfpmbjegaaGreatDoor
end
section
namespace Go.Proofs.YtgoilpfpmbjegaaGreatDoor
open Go.Sy Go.Pu Go.Proofs.YtgoilpfpmbjegaaGreatDoor.Tr
variable [Drw]
theorem boundF_nonneg {x : CasP} {yes no : Int} : ∀ {l : List Int} {taken sum r : Int}, 0 ≤ sum -> boundF x yes no l taken sum = some r -> 0 ≤ r
 | [], _, _, _, h, e => by
   rw [boundF] at e; cases e; exact h
 | t :: l, _, _, _, h, e => by
   rw [boundF] at e
   split at e
   ·exact boundF_nonneg h e
   ·split at e
    ·cases e
    ·exact boundF_nonneg (by omega) e
theorem costB_bd {x : CasP} (h : CostB x) (s : Int) : 0 ≤ qV4 x s /\ qV4 x s ≤ 25165824 := by
 have h1 := h.len
 have := sumN_bound (c := cst x) (B := 1048576) (by decide) (fun i _ => h.cost i) s x.cost.length (by omega)
 unfold qV4
 omega
set_option maxHeartbeats 1600000 in
theorem enough_does (x : CasP) (cuts : List Int) (yes no total : Int) (hx : CostB x) (hcl : cuts.length ≤ 1024) : DoesF Tryz.prog 91 [.ag (qV3 x), lV cuts, .ag (cubeL (yes, no)), iV total] [] (sB (enB x cuts total yes no)) [] := by
 refine DoesF.body _ Tryz.func91 rfl rfl rfl rfl ?_
 have hpb := costB_bd hx (qK9 .i64 x.state no)
 have hlb := fun s => qD4 (c := cst x) (B := 1048576) hx.cost (by decide) s x.cost.length
 refine KW.goLpR qQ0 qX7 100 rfl (I := fun q : Nat × Int × Int => ⟨Tryz.f91.ntmps, [(3, sI total), (4, .e (.r 4)), (6, .e (.r 6)), (9, sI q.2.2), (10, sI q.2.1), (21, .e (lV cuts)), (22, sI cuts.length), (23, sI q.1)], [(4, .box 27 [iV x.state, lV x.cost] none), (6, .box 92 [iV yes, iV no] none)]⟩)
  (R := fun q => q.1 ≤ cuts.length /\ boundF x yes no (cuts.drop q.1) q.2.1 q.2.2 = boundV x cuts yes no /\ 0 ≤ q.2.2 /\ q.2.2 ≤ 25165824 + q.1 * 1048576) (m := fun q => cuts.length - q.1) (0, 0, qV4 x (qK9 .i64 x.state no)) [(4, 4), (6, 6)] rfl rfl ⟨rfl, rfl, rfl, ?_, rfl, rfl, rfl, rfl, trivial⟩ ?_ ⟨Nat.zero_le _, rfl, hpb.1, by simp only; omega⟩ ⟨rfl, rfl, trivial⟩ ?_
 ·simp only [qQ2, qX0]; rfl
 ·simp only [qQ2, qQ8, qX0]
  simp [hx]
 rintro ⟨q, taken, sum⟩ ⟨g1, g2, g3, g4⟩
 simp only at g1 g2 g3 g4
 refine KW.goIf qQ0 qX7 100 rfl (by simp) rfl trivial (fun h => ?_) fun h => ?_
 ·have hq : q < cuts.length := by simp at h; omega
  have hg : cuts.getD (Int.toNat (q : Int)) 0 = cuts[q] := by simp [List.getD_eq_getElem?_getD, hq]
  rw [List.drop_eq_getElem_cons hq, boundF] at g2
  generalize cuts[q] = t at *
  refine KW.goIf qQ0 qX7 100 rfl (by simp only [hg]; simp; omega) rfl trivial (fun h => ?_) fun h => ?_
  ·have h1 : qK9 .i64 t no ≠ 0 ∨ qK9 .i64 t taken ≠ 0 := by simp only [hg] at h; simpa using h
   rw [if_pos h1] at g2
   exact KW.goToR qQ0 qX7 100 rfl (q + 1, taken, sum) [(4, 4), (6, 6)] rfl rfl ⟨rfl, rfl, rfl, rfl, rfl, rfl, rfl, rfl, trivial⟩ (by simp [inK]; omega) ⟨⟨by simp only; omega, g2, g3, by simp only; omega⟩, by simp only; omega⟩ ⟨rfl, rfl, trivial⟩
  ·have h1 : ¬ (qK9 .i64 t no ≠ 0 ∨ qK9 .i64 t taken ≠ 0) := by
    simp only [hg] at h
    have := h
    simp at this ⊢
    exact this
   rw [if_neg h1] at g2
   have hl := hlb (qQ4 .i64 t yes)
   rw [show qK4 (cst x) (qQ4 .i64 t yes) x.cost.length = qK3 x (qQ4 .i64 t yes) from rfl] at hl
   refine KW.goIf qQ0 qX7 100 rfl ?_ rfl trivial (fun h => ?_) fun h => ?_
   ·simp only [hg, qQ2, qQ8, qX0]
    simp [hx]
   ·have h2 : qK3 x (qQ4 .i64 t yes) < 0 := by
     simp only [hg, qQ2, qX0] at h
     simpa using h
    rw [if_pos h2] at g2
    refine KW.goOutR qQ0 qX7 100 rfl (by simp) ?_
    refine KW.goRet qQ0 qX7 100 rfl rfl ?_ (by simp) trivial
    rw [enB, <-g2]; rfl
   ·have h2 : ¬ qK3 x (qQ4 .i64 t yes) < 0 := by
     simp only [hg, qQ2, qX0] at h
     simpa using h
    rw [if_neg h2] at g2
    refine KW.goToR qQ0 qX7 100 rfl (q + 1, ior .i64 taken t, sum + qK3 x (qQ4 .i64 t yes)) [(4, 4), (6, 6)] rfl rfl ⟨rfl, rfl, rfl, ?_, ?_, rfl, rfl, rfl, trivial⟩ ?_ ⟨⟨by simp only; omega, g2, by simp only; omega, by simp only; omega⟩, by simp only; omega⟩ ⟨rfl, rfl, trivial⟩
    ·simp only [hg, qQ2, qX0]; rfl
    ·simp only [hg]; rfl
    ·simp only [hg, qQ2, qX0]
     simp [inK]
     omega
 ·have hq : q = cuts.length := by simp at h; omega
  subst hq
  rw [List.drop_length, boundF] at g2
  refine KW.goOut qQ0 qX7 100 rfl (by simp) ?_
  refine KW.goRet qQ0 qX7 100 rfl rfl ?_ (by simp) trivial
  rw [enB, <-g2]; rfl
def bdV (x : CasP) (cuts : List Int) (yes no : Int) : Int := match boundV x cuts yes no with
 | none => -1
 | some n => n
theorem iand_comm (a b : Int) : qK9 .i64 a b = qK9 .i64 b a := rng_ext (by simp) (by simp) fun i _ => by simp only [bit_iand]; exact Bool.and_comm _ _
set_option maxHeartbeats 1600000 in
theorem bound57_does (x : CasP) (cuts : List Int) (yes no : Int) (hx : CostB x) (hst : inN x.cost.length x.state) (hcn : ∀ t ∈ cuts, inN x.cost.length t) (hcl : cuts.length ≤ 1024) : DoesF Tryz.prog 96 [.ag (qV3 x), lV cuts, .ag (cubeL (yes, no))] [] (sI (bdV x cuts yes no)) [] := by
 refine DoesF.body _ Tryz.func96 rfl rfl rfl rfl ?_
 have hpb := costB_bd hx (qK9 .i64 x.state no)
 have hlb := fun s => qD4 (c := cst x) (B := 1048576) hx.cost (by decide) s x.cost.length
 have hn24 := hx.len
 have his : inN x.cost.length (qK9 .i64 no x.state) := by rw [iand_comm]; exact inN_iand hn24 hst
 refine KW.goLpR qQ0 qX7 100 rfl (I := fun q : Nat × Int × Int => ⟨Tryz.f96.ntmps, [(3, .e (.r 3)), (5, .e (.r 5)), (7, sI q.2.2), (8, sI q.2.1), (19, .e (lV cuts)), (20, sI cuts.length), (21, sI q.1)], [(3, .box 27 [iV x.state, lV x.cost] none), (5, .box 92 [iV yes, iV no] none)]⟩)
  (R := fun q => q.1 ≤ cuts.length /\ boundF x yes no (cuts.drop q.1) q.2.1 q.2.2 = boundV x cuts yes no /\ 0 ≤ q.2.2 /\ q.2.2 ≤ 25165824 + q.1 * 1048576) (m := fun q => cuts.length - q.1) (0, 0, qV4 x (qK9 .i64 x.state no)) [(3, 3), (5, 5)] rfl rfl ⟨rfl, rfl, ?_, rfl, rfl, rfl, rfl, trivial⟩ ?_ ⟨Nat.zero_le _, rfl, hpb.1, by simp only; omega⟩ ⟨rfl, rfl, trivial⟩ ?_
 ·simp only [qQ2, qX0]; rw [iand_comm x.state no]; rfl
 ·simp only [qQ2, qQ8, qX0]
  simp [hx, his]
 rintro ⟨q, taken, sum⟩ ⟨g1, g2, g3, g4⟩
 simp only at g1 g2 g3 g4
 refine KW.goIf qQ0 qX7 100 rfl (by simp) rfl trivial (fun h => ?_) fun h => ?_
 ·have hq : q < cuts.length := by simp at h; omega
  have hg : cuts.getD (Int.toNat (q : Int)) 0 = cuts[q] := by simp [List.getD_eq_getElem?_getD, hq]
  have htn := hcn cuts[q] (List.getElem_mem hq)
  rw [List.drop_eq_getElem_cons hq, boundF] at g2
  generalize cuts[q] = t at *
  have htn2 := qW7 (y := yes) hn24 htn
  refine KW.goIf qQ0 qX7 100 rfl (by simp only [hg]; simp; omega) rfl trivial (fun h => ?_) fun h => ?_
  ·have h1 : qK9 .i64 t no ≠ 0 ∨ qK9 .i64 t taken ≠ 0 := by simp only [hg] at h; simpa using h
   rw [if_pos h1] at g2
   exact KW.goToR qQ0 qX7 100 rfl (q + 1, taken, sum) [(3, 3), (5, 5)] rfl rfl ⟨rfl, rfl, rfl, rfl, rfl, rfl, rfl, trivial⟩ (by simp [inK]; omega) ⟨⟨by simp only; omega, g2, g3, by simp only; omega⟩, by simp only; omega⟩ ⟨rfl, rfl, trivial⟩
  ·have h1 : ¬ (qK9 .i64 t no ≠ 0 ∨ qK9 .i64 t taken ≠ 0) := by
    simp only [hg] at h
    have := h
    simp at this ⊢
    exact this
   rw [if_neg h1] at g2
   have hl := hlb (qQ4 .i64 t yes)
   rw [show qK4 (cst x) (qQ4 .i64 t yes) x.cost.length = qK3 x (qQ4 .i64 t yes) from rfl] at hl
   refine KW.goIf qQ0 qX7 100 rfl ?_ rfl trivial (fun h => ?_) fun h => ?_
   ·simp only [hg, qQ2, qQ8, qX0]
    simp [hx, htn2]
   ·have h2 : qK3 x (qQ4 .i64 t yes) < 0 := by
     simp only [hg, qQ2, qX0] at h
     simpa using h
    rw [if_pos h2] at g2
    refine KW.goOutR qQ0 qX7 100 rfl (by simp) ?_
    refine KW.goRet qQ0 qX7 100 rfl rfl ?_ (by simp) trivial
    rw [bdV, <-g2]; rfl
   ·have h2 : ¬ qK3 x (qQ4 .i64 t yes) < 0 := by
     simp only [hg, qQ2, qX0] at h
     simpa using h
    rw [if_neg h2] at g2
    refine KW.goToR qQ0 qX7 100 rfl (q + 1, ior .i64 taken t, sum + qK3 x (qQ4 .i64 t yes)) [(3, 3), (5, 5)] rfl rfl ⟨rfl, rfl, ?_, ?_, rfl, rfl, rfl, trivial⟩ ?_ ⟨⟨by simp only; omega, g2, by simp only; omega, by simp only; omega⟩, by simp only; omega⟩ ⟨rfl, rfl, trivial⟩
    ·simp only [hg, qQ2, qX0]; rfl
    ·simp only [hg]; rfl
    ·simp only [hg, qQ2, qX0]
     simp [inK]
     omega
 ·have hq : q = cuts.length := by simp at h; omega
  subst hq
  rw [List.drop_length, boundF] at g2
  refine KW.goOut qQ0 qX7 100 rfl (by simp) ?_
  refine KW.goRet qQ0 qX7 100 rfl rfl ?_ (by simp) trivial
  rw [bdV, <-g2]; rfl
end Go.Proofs.YtgoilpfpmbjegaaGreatDoor
end
section
namespace Go.Proofs.YtgoilpfpmbjegaaGreatDoor
open Go.Sy Go.Pu Go.Proofs.YtgoilpfpmbjegaaGreatDoor.Tr
variable [Drw]
def fXLCI (g : CasP -> List Int -> Int -> Int -> Int -> SV) (p : CasP -> List Int -> Int -> Int -> Int -> Prop) : List EV -> Option (SV × Prop)
 | [.ag [.lit (.int .i64 s), c], .c l, .ag [.lit (.int .i64 y), .lit (.int .i64 n)], .c (.lit (.int .i64 t))] => some (g ⟨s, unI c⟩ (unI l) y n t, isI c /\ isI l /\ p ⟨s, unI c⟩ (unI l) y n t)
 | _ => none
theorem fXLCI_ok {P : Program} {f : FuncId} {g : CasP -> List Int -> Int -> Int -> Int -> SV} {p : CasP -> List Int -> Int -> Int -> Int -> Prop} (h : ∀ x l y n t, p x l y n t -> DoesF P f [.ag (qV3 x), lV l, .ag (cubeL (y, n)), iV t] [] (g x l y n t) []) : ∀ ys y φ, fXLCI g p ys = some (y, φ) -> φ -> DoesF P f ys [] y [] := by
 intro ys y φ he hφ
 unfold fXLCI at he
 split at he
 ·simp only [Option.some.injEq, Prod.mk.injEq] at he
  obtain ⟨rfl, rfl⟩ := he
  obtain ⟨h1, h2, h3⟩ := hφ
  refine DoesF.conv ?_ (h _ _ _ _ _ h3)
  exact ⟨case_eq h1, h2, ⟨rfl, fun q x y hx hy => by rw [show (cubeL (_, _)) = [CV.lit (.int .i64 _), .lit (.int .i64 _)] from rfl] at hy; rw [hx] at hy; cases hy; exact CVEq.refl _⟩, CVEq.refl _, trivial⟩
 ·cases he
def fXLC (g : CasP -> List Int -> Int -> Int -> SV) (p : CasP -> List Int -> Int -> Int -> Prop) : List EV -> Option (SV × Prop)
 | [.ag [.lit (.int .i64 s), c], .c l, .ag [.lit (.int .i64 y), .lit (.int .i64 n)]] => some (g ⟨s, unI c⟩ (unI l) y n, isI c /\ isI l /\ p ⟨s, unI c⟩ (unI l) y n)
 | _ => none
theorem fXLC_ok {P : Program} {f : FuncId} {g : CasP -> List Int -> Int -> Int -> SV} {p : CasP -> List Int -> Int -> Int -> Prop} (h : ∀ x l y n, p x l y n -> DoesF P f [.ag (qV3 x), lV l, .ag (cubeL (y, n))] [] (g x l y n) []) : ∀ ys y φ, fXLC g p ys = some (y, φ) -> φ -> DoesF P f ys [] y [] := by
 intro ys y φ he hφ
 unfold fXLC at he
 split at he
 ·simp only [Option.some.injEq, Prod.mk.injEq] at he
  obtain ⟨rfl, rfl⟩ := he
  obtain ⟨h1, h2, h3⟩ := hφ
  refine DoesF.conv ?_ (h _ _ _ _ h3)
  exact ⟨case_eq h1, h2, ⟨rfl, fun q x y hx hy => by rw [show (cubeL (_, _)) = [CV.lit (.int .i64 _), .lit (.int .i64 _)] from rfl] at hy; rw [hx] at hy; cases hy; exact CVEq.refl _⟩, trivial⟩
 ·cases he
def R2 : Fns := (91, fXLCI (fun x l y n t => sB (enB x l t y n)) fun x l _ _ _ => CostB x /\ l.length ≤ 1024) ::
 (96, fXLC (fun x l y n => sI (bdV x l y n)) fun x l _ _ => CostB x /\ inN x.cost.length x.state /\ (∀ t ∈ l, inN x.cost.length t) /\ l.length ≤ 1024) ::
 R1
theorem qZ3 : FnsOk Tryz.prog R2 := .cons (.cons (qX7) Tryz.func96 rfl rfl (fXLC_ok fun x l y n h => bound57_does x l y n h.1 h.2.1 h.2.2.1 h.2.2.2)) Tryz.func91 rfl rfl (fXLCI_ok fun x l y n t h => enough_does x l y n t h.1 h.2)
def repC (r : RepP) : List CV := [.lit (.int .i64 r.set), .lit (.int .i64 r.total), qZ5 r.cuts] ++ trC r.tree
set_option maxHeartbeats 1600000 in
theorem refuted_does (x : CasP) (r : RepP) (l : LeafP) (hx : CostB x) (hr : inK .i64 l.reason) (hcl : r.cuts.length ≤ 1024) : DoesF Tryz.prog 50 [.ag (qV3 x), .ag (repC r), .ag (leafL l)] [] (sB (refB x r.cuts r.total l)) [] := by
 refine DoesF.body _ Tryz.func50 rfl rfl rfl rfl ?_
 obtain ⟨set, total, cuts, t⟩ := r
 obtain ⟨yes, no, r⟩ := l
 simp only [inK] at hr hcl
 refine KW.goIf qQ0 qZ3 100 rfl (by simp) rfl trivial (fun h => ?_) fun h => ?_
 ·have h0 : 0 ≤ r := by simpa using h
  rw [refB, if_pos h0]
  refine KW.goDV qQ0 qZ3 rfl 100 rfl 19 30 0 rfl (by decide +kernel) (by decide +kernel) rfl rfl rfl (by simp) ?_ ?_
  ·simp +contextual [inK, h0]
  refine KW.goRet qQ0 qZ3 100 rfl rfl ?_ (by simp) trivial
  rfl
 have h0 : ¬ 0 ≤ r := by simpa using h
 rw [refB, if_neg h0]
 refine KW.goRet qQ0 qZ3 100 rfl rfl ?_ ?_ trivial
 ·simp only [SV.ren, EV.ren, qQ2, qX0]
  rfl
 ·simp only [qQ2, qQ8, qX0]
  simp [hx, hcl]
theorem bd_test (x : CasP) (cuts : List Int) (total yes no : Int) : (decide (bdV x cuts yes no < 0) || decide (total ≤ bdV x cuts yes no)) = enB x cuts total yes no ∨ ¬ CostB x := by
 by_cases hx : CostB x
 ·left
  unfold bdV enB
  cases hb : boundV x cuts yes no with
  | none => rfl
  | some n =>
    have : 0 ≤ n := boundF_nonneg (costB_bd hx _).1 hb
    simp only
    rw [decide_eq_false (by omega), Bool.false_or]
 ·exact .inr hx
set_option maxHeartbeats 1600000 in
theorem refuted57_does (x : CasP) (r : RepP) (l : LeafP) (hx : CostB x) (hr : inK .i64 l.reason) (hst : inN x.cost.length x.state) (hcn : ∀ t ∈ r.cuts, inN x.cost.length t) (hcl : r.cuts.length ≤ 1024) : DoesF Tryz.prog 55 [.ag (qV3 x), .ag (repC r), .ag (leafL l)] [] (sB (refB x r.cuts r.total l)) [] := by
 refine DoesF.body _ Tryz.func55 rfl rfl rfl rfl ?_
 obtain ⟨set, total, cuts, t⟩ := r
 obtain ⟨yes, no, r⟩ := l
 simp only [inK] at hr hcl hcn
 refine KW.goIf qQ0 qZ3 100 rfl (by simp) rfl trivial (fun h => ?_) fun h => ?_
 ·have h0 : 0 ≤ r := by simpa using h
  rw [refB, if_pos h0]
  refine KW.goDV qQ0 qZ3 rfl 100 rfl 19 30 0 rfl (by decide +kernel) (by decide +kernel) rfl rfl rfl (by simp) ?_ ?_
  ·simp +contextual [inK, h0]
  refine KW.goRet qQ0 qZ3 100 rfl rfl ?_ (by simp) trivial
  rfl
 have h0 : ¬ 0 ≤ r := by simpa using h
 rw [refB, if_neg h0]
 refine KW.goIf qQ0 qZ3 100 rfl (by simp) rfl trivial (fun h => ?_) fun h => ?_
 ·have h1 : ¬ r = -1 := by simpa using h
  refine KW.goRet qQ0 qZ3 100 rfl rfl ?_ (by simp) trivial
  simp [SV.ren, EV.ren, h1]
 have h1 : r = -1 := by simpa using h
 have hT := (bd_test x cuts total yes no).resolve_right fun h => h hx
 refine KW.goRet qQ0 qZ3 100 rfl rfl ?_ ?_ trivial
 ·simp only [SV.ren, EV.ren, qQ2, qX0, h1]
  rw [<-hT]; rfl
 ·simp only [qQ2, qQ8, qX0]
  simp [hx, hcl, hst]
  exact hcn
end Go.Proofs.YtgoilpfpmbjegaaGreatDoor
end
section
namespace Go.Sy
variable [Drw]
theorem setCell_setRow {w : World} {g T : Nat} {cur : Array Value} {fr : Nat × Nat} (hg : w.heap[g]? = some (.cells cur T fr)) (j : Nat) (v : Value) : w.setCell ⟨g, j, none⟩ v = w.setRow g (cur.setIfInBounds j v) := by
 have hlt : g < w.heap.size := (Array.getElem?_eq_some_iff.1 hg).1
 have hv : w.heap[g] = .cells cur T fr := (Array.getElem?_eq_some_iff.1 hg).2
 unfold World.setCell World.setRow
 congr 1
 apply Array.ext
 ·simp
 ·intro k h1 h2
  simp only [Array.getElem_modify]
  split
  ·rename_i hk
   subst hk
   simp [hv]
  ·rfl
def setsA : Array Value -> Nat -> List Value -> Array Value
 | cur, _, [] => cur
 | cur, j, v :: r => setsA (cur.setIfInBounds j v) (j + 1) r
theorem setsA_size : ∀ (vs : List Value) (cur : Array Value) (j : Nat), (setsA cur j vs).size = cur.size
 | [], _, _ => rfl
 | v :: r, cur, j => by rw [setsA, setsA_size r]; simp
theorem setsA_get : ∀ (vs : List Value) (cur : Array Value) (j i : Nat), j + vs.length ≤ cur.size -> (setsA cur j vs)[i]? = if j ≤ i /\ i < j + vs.length then vs[i - j]? else cur[i]?
 | [], cur, j, i, _ => by rw [setsA, if_neg (by simp)]
 | v :: r, cur, j, i, h => by
   simp only [List.length_cons] at h
   rw [setsA, setsA_get r _ _ _ (by simp; omega)]
   simp only [List.length_cons]
   by_cases h1 : j + 1 ≤ i /\ i < j + 1 + r.length
   ·rw [if_pos h1, if_pos (by omega), show i - j = (i - (j + 1)) + 1 by omega, List.getElem?_cons_succ]
   ·rw [if_neg h1]
    by_cases h2 : i = j
    ·subst h2
     rw [if_pos (by omega), Array.getElem?_setIfInBounds_self]
     simp
     omega
    ·rw [if_neg (by omega), Array.getElem?_setIfInBounds_ne (by omega)]
theorem setCells_setRow : ∀ (vs : List Value) {w : World} {g T : Nat} {cur : Array Value} {fr : Nat × Nat} (hg : w.heap[g]? = some (.cells cur T fr)) (j : Nat), w.setCells g j vs = w.setRow g (setsA cur j vs)
 | [], w, g, T, cur, fr, hg, j => (setRow_self w g cur T fr hg).symm
 | v :: r, w, g, T, cur, fr, hg, j => by
   rw [World.setCells, setCell_setRow hg, setCells_setRow r (setRow_heap w g cur _ T fr hg), setRow_setRow]; rfl
section
variable {P : Program} {lay : Lay} {A : St} {Q : Exit -> St -> Prop}
theorem KW.clearTail (hl : qJ1 P lay) {k : List K} {all : Array Oper} {op1 op2 : Oper} {rest : List Oper} {c : Call} {i d T sz E by' : Nat} {ag : Bool} {zz : List Value} {x y : Operand} {j : Nat} {xs : List Int} {p q : Prop}
  (ho1 : op1.op = .slice T x (some y) none none) (hg1 : op1.guard = none) (hd1 : op1.dst = some d) (hlt : Nat.blt d A.n = true)
  (ho2 : op2.op = .call c) (hc : c.callee = .builtin .clear) (ha : c.args = #[.tmp d]) (hat : c.argTypes = #[T]) (hg2 : op2.guard = none) (hd2 : op2.dst = none)
  (hT : lk lay T = some ⟨sz, ag, .sl E 1 by', zz⟩) (hz : ∀ w, (zeroValue E).run P w = .ok (.int .i64 0) w)
  (hx : rd A x = some (.r i, p)) (hp : p) (hy : litOf A y = some (.int .i64 (j : Int), q)) (hq : q) (hi : lk A.rs i = some (.own E (qZ5 xs))) (hj : j < xs.length)
  (hn : KW P (.ops all rest :: k) .normal ⟨A.n, (d, .e .dead) :: A.sl, (i, .own E (qZ5 (xs.take j ++ List.replicate (xs.length - j) 0))) :: A.rs⟩ Q) : KW P (.ops all (op1 :: op2 :: rest) :: k) .normal A Q := by
 intro o h tm w hs
 obtain ⟨hu, _, i0, hinfo, hsz, _⟩ := sl_elem hl hT
 obtain ⟨g, cap, cur, hv, hheap, hnc, hcs, hcur, hwr⟩ := hs.write hi (by omega)
 have hxv : evl tm x = h i := qY6 hs hx hp
 have hyv : evl tm y = .int .i64 (j : Int) := (qZ6 hs hy hq).1
 have hltn : d < A.n := by simpa [Nat.blt, Nat.succ_le_iff] using hlt
 have hne : ¬ cap = j := by omega
 have hb := run_sliceBounds (P := P) (cap := cap) (len := xs.length) hs true (lo := some y) (hi := none) (l := (j : Int)) (g := (xs.length : Int)) (pl := q) (pg := True) (by simp [bnd, hy]) (by simp [bnd]) hq trivial (by omega) (by omega) (by omega)
 simp only [Option.map_some, Option.map_none, Int.toNat_natCast] at hb
 have hr1 : (execOp (evl tm) op1).run P w = .ok (.value (.slice (some ⟨g, j, none⟩) (xs.length - j) (cap - j))) w := by
  simp [execOp, ho1, hxv, hv, Instr.sliceAt, Instr.slice, run_underlying hu, hb, sizeOf, typeInfo, hinfo, hne, qB4, hsz]
 have hcell : ∀ jj, jj < cap -> w.cell? ⟨g, jj, none⟩ = cur[jj]? := fun jj hjj => by simp [World.cell?, hheap]
 have hr2 : (execOp (evl (tm.setIfInBounds d (.slice (some ⟨g, j, none⟩) (xs.length - j) (cap - j)))) op2).run P w = .ok (.value (.tuple #[])) (w.setCells g j (List.replicate (xs.length - j) (.int .i64 0))) := by
  have h1 := Go.Lib.run_clear_slice (P := P) w T E op2.type (.int .i64 0) hu hz rfl rfl g j (xs.length - j) (cap - j) (by omega) (fun jj hjj => by
   rw [hcell _ (by omega), Array.getElem?_eq_getElem (by omega)]; rfl) (fun jj hjj => by simp [World.frozen?, hheap])
  have he : evl (tm.setIfInBounds d (.slice (some ⟨g, j, none⟩) (xs.length - j) (cap - j))) (.tmp d) = .slice (some ⟨g, j, none⟩) (xs.length - j) (cap - j) := by
   have hsz2 := hs.size
   show (tm.setIfInBounds d _).getD d undef = _
   rw [Array.getD_eq_getD_getElem?, Array.getElem?_setIfInBounds_self, if_pos (by omega)]
   rfl
  simp only [execOp, ho2, resolve, hc, invoke, builtin, ha, hat]
  simp [he, h1]
 obtain ⟨hs1, hx1⟩ := hwr (setsA cur j (List.replicate (xs.length - j) (.int .i64 0))) (xs.take j ++ List.replicate (xs.length - j) 0) (by rw [setsA_size]; exact hcs) (by simp; omega) (fun jj hjj => by
  rw [setsA_get _ _ _ _ (by simp; omega)]
  simp only [List.length_replicate]
  by_cases h1 : j ≤ jj /\ jj < j + (xs.length - j)
  ·rw [if_pos h1, List.getElem?_replicate, if_pos (by omega), List.getD_eq_getElem?_getD, List.getElem?_append_right (by simp; omega), List.getElem?_replicate, if_pos (by simp; omega)]
   rfl
  ·rw [if_neg h1, hcur jj hjj, List.getD_eq_getElem?_getD, List.getD_eq_getElem?_getD, List.getElem?_append_left (by simp; omega), List.getElem?_take, if_pos (by omega)])
 rw [<-setCells_setRow _ hheap] at hs1 hx1
 have hs2 := hs1.put hltn (sv := .e .dead) (v := .slice (some ⟨g, j, none⟩) (xs.length - j) (cap - j)) trivial
 have hput1 : ∀ v, (⟨tm, []⟩ : Act).put op1.dst v = ⟨tm.setIfInBounds d v, []⟩ := fun v => by simp [Act.put, hd1]
 have hput2 : ∀ t v, (⟨t, []⟩ : Act).put op2.dst v = ⟨t, []⟩ := fun t v => by simp [Act.put, hd2]
 show wpList P all (kq P (lift Q o w) k) (op1 :: op2 :: rest) ⟨tm, []⟩ w
 unfold wpList
 rw [if_pos (by simp [Region.wanted, hg1])]
 left
 unfold Oper.wp
 show op1.upon P ⟨tm, []⟩ _ _ ((execOp (evl tm) op1).run P w)
 rw [hr1]
 show wpList P all (kq P (lift Q o w) k) (op2 :: rest) ((⟨tm, []⟩ : Act).put op1.dst _) w
 rw [hput1]
 unfold wpList
 rw [if_pos (by simp [Region.wanted, hg2])]
 left
 unfold Oper.wp
 show op2.upon P ⟨tm.setIfInBounds d _, []⟩ _ _ ((execOp (evl (tm.setIfInBounds d _)) op2).run P w)
 rw [hr2]
 show wpList P all (kq P (lift Q o w) k) rest ((⟨tm.setIfInBounds d _, []⟩ : Act).put op2.dst _) _
 rw [hput2]
 exact wpList_mono (fun e a w'' hq => qB7 (qW2 hx1) k e a w'' hq) rest _ _ (hn o h _ _ hs2)
end
end Go.Sy
namespace Go.Proofs.YtgoilpfpmbjegaaGreatDoor
open Go.Sy Go.Pu Go.Proofs.YtgoilpfpmbjegaaGreatDoor.Tr
variable [Drw]
end Go.Proofs.YtgoilpfpmbjegaaGreatDoor
end
section
namespace Go.Proofs.YtgoilpfpmbjegaaGreatDoor
open Go.Sy Go.Pu Go.Proofs.YtgoilpfpmbjegaaGreatDoor.Tr
variable [Drw]
set_option maxHeartbeats 1600000 in
theorem delf_does {g m : Nat} {ks : Nat -> Nat} {caps : Nat -> Nat -> CV} {p : Int -> Bool} (xs : List Int) (hc : Clo Tryz.prog g m ks caps p xs) : DoesF Tryz.prog 75 [.r 0, .c (.clo g m ks caps)] [(0, .own 3 (qZ5 xs))] (.e (lV (xs.filter fun x => !p x))) [] := by
 refine DoesF.body _ Tryz.func75 rfl rfl rfl rfl ?_
 refine KW.lenR 0 rfl rfl fun hla => ?_
 refine KW.go qQ0 qZ3 100 rfl (by simp) ?_
 refine KW.callV0 (indexP_does xs hc) (qQ9 Tryz.func86 rfl rfl) [0] (.inl rfl) rfl rfl rfl rfl rfl trivial ⟨⟨_, _, rfl, trivial, .lend rfl rfl (CVEq.refl _) rfl rfl⟩, ⟨_, _, rfl, trivial, .conv (CVEq.refl _)⟩, trivial⟩ rfl (.inr trivial) ?_
 cases hf : firstB (fun i => p (xs.getD i 0)) xs.length with
 | none =>
   rw [idxV_none hf]
   have hall := qC5.1 hf
   have e : (xs.filter fun x => !p x) = xs := by
    rw [List.filter_eq_self]
    intro x hx
    obtain ⟨i, hi, rfl⟩ := List.getElem_of_mem hx
    have := hall i hi
    rw [List.getD_eq_getElem?_getD, List.getElem?_eq_getElem hi, Option.getD_some] at this
    rw [this]; rfl
   rw [e]
   refine KW.goIf qQ0 qZ3 100 rfl (by simp) rfl trivial (fun h => ?_) fun h => absurd h (by simp)
   exact KW.goRetO qQ0 qZ3 100 rfl 0 4 rfl rfl rfl rfl (by simp)
 | some k0 =>
   rw [idxV_some hf]
   obtain ⟨f1, f2, f3⟩ := firstB_spec hf
   have hk0 : xs.getD k0 0 = xs[k0] := by rw [List.getD_eq_getElem?_getD, List.getElem?_eq_getElem f1]; rfl
   rw [hk0] at f2
   refine KW.goIf qQ0 qZ3 100 rfl (by simp) rfl trivial (fun h => absurd h (by simp)) fun h => ?_
   clear h
   have hstart : xs.take k0 = (xs.take (k0 + 1)).filter fun x => !p x := by
    rw [List.take_succ_eq_append_getElem f1, List.filter_append, List.filter_cons, f2]
    simp only [Bool.not_true, Bool.false_eq_true, if_false, List.filter_nil, List.append_nil]
    symm
    rw [List.filter_eq_self]
    intro x hx
    obtain ⟨i, hi, rfl⟩ := List.mem_take_iff_getElem.1 hx
    have := f3 i (by omega)
    rw [List.getD_eq_getElem?_getD, List.getElem?_eq_getElem (by omega), Option.getD_some] at this
    rw [this]; rfl
   refine KW.goLpR qQ0 qZ3 100 rfl (I := fun q : List Int × Nat × Nat => ⟨Tryz.f75.ntmps, [(0, .e (.r 0)), (1, .e (.c (.clo g m ks caps))), (5, sI q.2.1), (6, sI q.2.2)], [(0, .own 3 (qZ5 q.1))]⟩)
    (R := fun q => q.1.length = xs.length /\ q.2.2 ≤ xs.length /\ q.2.1 < q.2.2 /\ q.1.take q.2.1 = (xs.take q.2.2).filter (fun x => !p x) /\ q.1.drop q.2.2 = xs.drop q.2.2) (m := fun q => xs.length - q.2.2) (xs, k0, k0 + 1) [(0, 0)] rfl rfl ⟨rfl, rfl, rfl, rfl, trivial⟩ (by simp [inK]; omega) ⟨rfl, by simp only; omega, by simp only; omega, hstart, rfl⟩ ⟨rfl, trivial⟩ ?_
   rintro ⟨ys, i, j⟩ ⟨g1, g2, g3, g4, g5⟩
   simp only at g1 g2 g3 g4 g5
   refine KW.goIf qQ0 qZ3 100 rfl (by simp) rfl trivial (fun h => ?_) fun h => ?_
   ·have hj : j < xs.length := by simp [g1] at h; omega
    have hyj : ys.getD (Int.toNat (j : Int)) 0 = xs[j] := by
     have e1 : (ys.drop j)[0]? = (xs.drop j)[0]? := by rw [g5]
     rw [List.getElem?_drop, List.getElem?_drop, Nat.add_zero] at e1
     rw [Int.toNat_natCast, List.getD_eq_getElem?_getD, e1, List.getElem?_eq_getElem hj]; rfl
    have htk : xs.take (j + 1) = xs.take j ++ [xs[j]] := List.take_succ_eq_append_getElem hj
    refine KW.go qQ0 qZ3 100 rfl (by simp [g1]; omega) ?_
    refine KW.callC [iV xs[j]] (hc.2 xs[j] (List.getElem_mem hj)) hc.1 [] (.inl rfl) rfl rfl rfl rfl rfl trivial ⟨⟨_, _, rfl, trivial, Mt.conv (show CVEq (.lit (.int .i64 (ys.getD (Int.toNat (j : Int)) 0))) _ by rw [hyj]; exact CVEq.refl _)⟩, trivial⟩ rfl (.inl rfl) ?_
    refine KW.goIf qQ0 qZ3 100 rfl (by simp) rfl trivial (fun h => ?_) fun h => ?_
    ·have hp : p xs[j] = false := by
      have : (!p xs[j]) = true := h
      simpa using this
     refine KW.go qQ0 qZ3 100 rfl (by simp [inK, g1]; omega) ?_
     refine KW.updI 0 (e := Int.toNat (i : Int)) (v := ys.getD (Int.toNat (j : Int)) 0) rfl ?_
     refine KW.goToR qQ0 qZ3 100 rfl (ys.set i xs[j], i + 1, j + 1) [(0, 0)] rfl rfl ⟨rfl, rfl, rfl, rfl, trivial⟩ (by simp) ⟨⟨by simp [g1], by simp only; omega, by simp only; omega, ?_, ?_⟩, by simp only; omega⟩ ⟨qA3 _ (by rw [hyj, Int.toNat_natCast]), trivial⟩
     ·simp only
      rw [List.take_succ_eq_append_getElem (by simp; omega), List.getElem_set_self, List.take_set, List.set_eq_of_length_le (by simp; omega), g4, htk, List.filter_append, List.filter_cons, hp]
      simp
     ·simp only
      rw [List.drop_set, if_pos (by omega), <-List.drop_drop, <-List.drop_drop, g5]
    ·have hp : p xs[j] = true := by
      have : (!p xs[j]) = false := h
      simpa using this
     refine KW.goToR qQ0 qZ3 100 rfl (ys, i, j + 1) [(0, 0)] rfl rfl ⟨rfl, rfl, rfl, rfl, trivial⟩ (by simp [inK]; omega) ⟨⟨g1, by simp only; omega, by simp only; omega, ?_, ?_⟩, by simp only; omega⟩ ⟨rfl, trivial⟩
     ·simp only [htk, List.filter_append, List.filter_cons, hp, <-g4]
      simp
     ·simp only
      rw [show j + 1 = j + 1 from rfl, <-List.drop_drop, <-List.drop_drop, g5]
   ·have hj : j = xs.length := by simp [g1] at h; omega
    refine KW.goOut qQ0 qZ3 100 rfl (by simp) ?_
    subst hj
    rw [List.take_length] at g4
    refine KW.go qQ0 qZ3 100 rfl (by simp) ?_
    refine KW.clearTail qQ0 (i := 0) (j := i) (xs := ys) rfl rfl rfl rfl rfl rfl rfl rfl rfl rfl rfl (fun w => by kernel_rfl) rfl trivial rfl trivial rfl (by omega) ?_
    refine KW.frz 0 [0] rfl rfl rfl ?_
    refine KW.go qQ0 qZ3 100 rfl (by simp; omega) ?_
    refine KW.conv 4 (qZ5 (xs.filter fun x => !p x)) rfl ?_ ?_
    ·have hlen : (xs.filter fun x => !p x).length = i := by rw [<-g4]; simp; omega
     refine ⟨by rw [hlen]; simp, .inr ⟨rfl, fun e q he hq => ?_⟩⟩
     have he2 : e < i := by
      have : e < Int.toNat (i : Int) - Int.toNat 0 := he
      omega
     have hz : (ys.take i ++ List.replicate (ys.length - i) 0).getD e 0 = (xs.filter fun x => !p x).getD e 0 := by
      rw [<-g4, List.getD_eq_getElem?_getD, List.getD_eq_getElem?_getD, List.getElem?_append_left (by simp; omega)]
     show Value.int .i64 ((ys.take i ++ List.replicate (ys.length - i) 0).getD (e + Int.toNat 0) 0) = Value.int .i64 ((xs.filter fun x => !p x).getD e 0)
     rw [show e + Int.toNat 0 = e from rfl, hz]
    exact KW.fin [] rfl rfl rfl trivial
end Go.Proofs.YtgoilpfpmbjegaaGreatDoor
end
section
namespace Go.Proofs.YtgoilpfpmbjegaaGreatDoor
open Go.Sy Go.Pu Go.Proofs.YtgoilpfpmbjegaaGreatDoor.Tr
variable [Drw]
theorem minimalO_does (l : List Int) (hv : ∀ x ∈ l, qQ6 x = true) (hb : l.length ≤ 1099511627776) : DoesF Tryz.prog 112 [.c (qZ5 l)] [] (.e (.r 0)) [(0, .own 3 (qZ5 (minS l)))] := by
 have T_ok : FnsOk Tryz.prog ((136, fL (fun l => .e (.c (qZ5 (qD1 l)))) fun l => (∀ x ∈ l, qQ6 x = true) /\ l.length ≤ 1099511627776) :: T11) := .cons qD3 Tryz.func136 rfl rfl (fL_ok fun l h => sorted_does l h.1 h.2)
 refine DoesF.body _ Tryz.func112 rfl rfl rfl rfl ?_
 have hSl := sortedL_length l
 have hm := minL_length (qD1 l) []
 refine KW.go qQ0 T_ok 100 rfl (by simpa using ⟨hv, hb⟩) ?_
 simp only [qQ2]
 generalize hS : qD1 l = S at hSl hm
 refine KW.nilO 3 3 3 (qZ5 []) rfl rfl rfl ?_
 refine KW.lp (I := fun q : List Int × Nat => ⟨Tryz.f112.ntmps, [(3, .e (.r 3)), (7, .e (.c (qZ5 S))), (8, sI S.length), (9, sI q.2)], [(3, .own 3 (qZ5 q.1))]⟩)
  (R := fun q => q.2 ≤ S.length /\ minL q.1 (S.drop q.2) = minS l /\ q.1.length ≤ q.2) (m := fun q => S.length - q.2) ([], 0) ⟨by simp, by simp [minS, hS], by simp⟩ [(3, 3)] ⟨rfl, rfl, ⟨rfl, rfl, rfl, rfl, trivial⟩, ⟨rfl, trivial⟩⟩ ?_
 rintro ⟨out, q⟩ ⟨h1, h2, h3⟩
 simp only at h1 h2 h3
 refine KW.goIf qQ0 T_ok 100 rfl (by simp) rfl trivial (fun h => ?_) fun h => ?_
 ·have hq : q < S.length := by simpa using h
  have hg : S.getD (Int.toNat (q : Int)) 0 = S[q] := by simp [List.getD_eq_getElem?_getD, hq]
  have hd : S.drop q = S[q] :: S.drop (q + 1) := List.drop_eq_getElem_cons hq
  rw [hd, minL] at h2
  refine KW.go qQ0 T_ok 100 rfl (by simp; omega) ?_
  refine KW.callV0 (containsFunc_does (m := 1) (ks := fun _ => 1) (caps := fun _ _ => .lit (.int .i64 S[q])) (p := fun t => subS t S[q]) out ⟨qQ9 Tryz.func137 rfl rfl, fun x _ => minimalC_does x S[q]⟩) (qQ9 Tryz.func44 rfl rfl) [3, 5] (.inl rfl) rfl rfl rfl rfl rfl trivial
   ⟨⟨_, _, rfl, trivial, .lend rfl rfl (CVEq.refl _) rfl rfl⟩, ⟨_, _, rfl, trivial, .lfn rfl ?_⟩, trivial⟩ rfl (.inr trivial) ?_
  ·intro j hj
   obtain rfl : j = 0 := by omega
   refine ⟨5, _, _, _, rfl, rfl, rfl, rfl, fun q' hq' => ?_⟩
   obtain rfl : q' = 0 := by omega
   show some (EV.c (.lit (.int .i64 (S.getD (Int.toNat (q : Int)) 0)))) = _
   rw [hg]
  ·refine KW.goIf qQ0 T_ok 100 rfl (by simp) rfl trivial (fun h => ?_) fun h => ?_
   ·have hc : (out.any fun t => subS t S[q]) = false := by simpa using h
    rw [hc] at h2
    refine KW.goToR qQ0 T_ok 100 rfl (out ++ [S[q]], q + 1) [(3, 20)] rfl rfl ⟨rfl, rfl, rfl, rfl, trivial⟩ (by simp [inK] <;> omega) ⟨⟨by simp only; omega, by simpa using h2, by simp; omega⟩, by simp only; omega⟩ ⟨qC3 _ ?_, trivial⟩
    rw [hg]
   ·have hc : (out.any fun t => subS t S[q]) = true := by simpa using h
    rw [hc] at h2
    refine KW.goToR qQ0 T_ok 100 rfl (out, q + 1) [(3, 3)] rfl rfl ⟨rfl, rfl, rfl, rfl, trivial⟩ (by simp [inK] <;> omega) ⟨⟨by simp only; omega, by simpa using h2, by simp only; omega⟩, by simp only; omega⟩ ⟨rfl, trivial⟩
 ·have hq : q = S.length := by simp at h; omega
  refine KW.goOut qQ0 T_ok 100 rfl (by simp) ?_
  rw [hq, List.drop_length, minL] at h2
  rw [<-h2]
  exact KW.goRetR qQ0 T_ok 100 rfl [(0, 3)] rfl rfl rfl (by simp <;> omega) (by exact ⟨rfl, trivial⟩)
theorem sizedO_does (l : List Int) (h : ¬ 1024 < l.length) : DoesF Tryz.prog 134 [.r 0] [(0, .own 3 (qZ5 l))] (.tup [.r 0, eV 0]) [(0, .own 3 (qZ5 l))] := by
 refine DoesF.body _ Tryz.func134 rfl rfl rfl rfl ?_
 refine KW.goIf qQ0 qD3 100 rfl (by simp) rfl trivial (fun h => ?_) fun h => ?_
 ·exfalso; simp at h; omega
 ·exact KW.goRetR qQ0 qD3 100 rfl [(0, 0)] rfl rfl rfl (by simp) (by exact ⟨rfl, trivial⟩)
theorem productO_does (a b : List Int) (h0 : qY0 a b = 0) (hl : ¬ 1024 < (minS (unionsC a b)).length) : DoesF Tryz.prog 110 [lV a, lV b] [] (.tup [.r 0, eV 0]) [(0, .own 3 (qZ5 (minS (unionsC a b))))] := by
 refine DoesF.body _ Tryz.func110 rfl rfl rfl rfl ?_
 refine KW.goIf qQ0 qV5 100 rfl (by simp) rfl trivial (fun h => absurd h (by simp [listsE_two, h0])) fun h => ?_
 ·clear h
  have h := h0
  have h1 : qV0 a = 0 := by unfold qY0 at h; split at h <;> simp_all
  have h2 : qV0 b = 0 := by unfold qY0 at h; split at h <;> simp_all
  have la := qK0 h1
  have lb := qK0 h2
  have va := qY9 h1
  have vb := qY9 h2
  have hma := qB0 a
  have hmb := qB0 b
  refine KW.go qQ0 qV5 100 rfl (by simpa using ⟨⟨va, by omega⟩, vb, by omega⟩) ?_
  simp only [qQ2]
  generalize hA : minS a = MA at hma
  generalize hB : minS b = MB at hmb
  refine KW.makeMap rfl rfl rfl rfl rfl ?_
  refine KW.go qQ0 qV5 100 rfl (by simp) ?_
  refine KW.nilO 8 8 3 (qZ5 []) rfl rfl rfl ?_
  refine KW.lp (I := fun q : Nat => ⟨Tryz.f110.ntmps, [(1, .e (lV MB)), (7, .e (.r 25)), (8, .e (.r 8)), (26, .e (lV MA)), (27, sI MA.length), (28, sI q)], [(8, .own 3 (qZ5 (qJ6 [] (unionsL (MA.take q) MB)))), (25, .mset (qJ6 [] (unionsL (MA.take q) MB)).reverse)]⟩)
   (R := fun q => q ≤ MA.length) (m := fun q => MA.length - q) 0 (by simp) [(8, 8), (25, 25)] ⟨rfl, rfl, ⟨rfl, rfl, rfl, rfl, rfl, rfl, trivial⟩, ⟨rfl, rfl, trivial⟩⟩ ?_
  rintro q hq0
  have hUl : (qJ6 [] (unionsL (MA.take q) MB)).length ≤ 1048576 := by
   have := addAll_length (unionsL (MA.take q) MB) []
   rw [unionsL_length] at this
   have h3 : (MA.take q).length * MB.length ≤ 1024 * 1024 := Nat.mul_le_mul (by simp; omega) (by omega)
   simp only [List.length_nil, Nat.zero_add] at this
   omega
  refine KW.goIf qQ0 qV5 100 rfl (by simp) rfl trivial (fun h3 => ?_) fun h3 => ?_
  ·have hq : q < MA.length := by simpa using h3
   have hg : MA.getD (Int.toNat (q : Int)) 0 = MA[q] := by simp [List.getD_eq_getElem?_getD, hq]
   have hsucc : unionsL (MA.take (q + 1)) MB = unionsL (MA.take q) MB ++ MB.map fun y => ior .i64 MA[q] y := by
    unfold unionsL
    rw [List.take_succ_eq_append_getElem hq, List.flatMap_append, List.flatMap_singleton]
   generalize hU : qJ6 [] (unionsL (MA.take q) MB) = U at hUl
   refine KW.goLpR qQ0 qV5 100 rfl (I := fun p : Nat => ⟨Tryz.f110.ntmps, [(1, .e (lV MB)), (7, .e (.r 25)), (8, .e (.r 8)), (10, sI MA[q]), (26, .e (lV MA)), (27, sI MA.length), (28, sI q), (32, .e (lV MB)), (33, sI MB.length), (34, sI p)], [(8, .own 3 (qZ5 (qJ6 U ((MB.take p).map fun y => ior .i64 MA[q] y)))), (25, .mset (qJ6 U ((MB.take p).map fun y => ior .i64 MA[q] y)).reverse)]⟩)
    (R := fun p => p ≤ MB.length) (m := fun p => MB.length - p) 0 [(8, 8), (25, 25)] rfl rfl ⟨rfl, rfl, rfl, by rw [<-hg]; rfl, rfl, rfl, rfl, rfl, rfl, rfl, trivial⟩ (by simp; omega) (by simp) ⟨rfl, rfl, trivial⟩ ?_
   rintro p hp0
   have hVl : (qJ6 U ((MB.take p).map fun y => ior .i64 MA[q] y)).length ≤ 2097152 := by
    have := addAll_length ((MB.take p).map fun y => ior .i64 MA[q] y) U
    simp only [List.length_map, List.length_take] at this
    omega
   refine KW.goIf qQ0 qV5 100 rfl (by simp) rfl trivial (fun h4 => ?_) fun h4 => ?_
   ·have hp : p < MB.length := by simpa using h4
    have hgp : MB.getD (Int.toNat (p : Int)) 0 = MB[p] := by simp [List.getD_eq_getElem?_getD, hp]
    have hps : qJ6 U ((MB.take (p + 1)).map fun y => ior .i64 MA[q] y) = qJ6 (qJ6 U ((MB.take p).map fun y => ior .i64 MA[q] y)) [ior .i64 MA[q] MB[p]] := by
     rw [List.take_succ_eq_append_getElem hp, List.map_append, addAll_append]; rfl
    generalize qJ6 U ((MB.take p).map fun y => ior .i64 MA[q] y) = V at hVl hps
    refine KW.go qQ0 qV5 100 rfl (by simp; omega) ?_
    refine KW.look qQ0 rfl rfl rfl rfl rfl rfl rfl rfl trivial trivial ?_
    rw [hgp]
    refine KW.goIf qQ0 qV5 100 rfl (by simp) rfl trivial (fun h5 => ?_) fun h5 => ?_
    ·have hnot : ¬ ior .i64 MA[q] MB[p] ∈ V := by simpa using h5
     refine KW.go qQ0 qV5 100 rfl (by simp) ?_
     refine KW.mapPut qQ0 rfl rfl rfl rfl rfl rfl rfl trivial trivial ?_
     refine KW.goToR qQ0 qV5 100 rfl (p + 1) [(8, 50), (25, 25)] rfl rfl ⟨rfl, rfl, rfl, rfl, rfl, rfl, rfl, rfl, rfl, rfl, trivial⟩ (by simp [inK] <;> omega) ⟨by omega, by omega⟩ ⟨qC3 _ ?_, ?_, trivial⟩
     ·rw [hps, qJ6, qJ6, if_neg hnot]
     ·rw [hps, qJ6, qJ6, if_neg hnot, List.reverse_append]; rfl
    ·have hin : ior .i64 MA[q] MB[p] ∈ V := by simpa using h5
     refine KW.goToR qQ0 qV5 100 rfl (p + 1) [(8, 8), (25, 25)] rfl rfl ⟨rfl, rfl, rfl, rfl, rfl, rfl, rfl, rfl, rfl, rfl, trivial⟩ (by simp [inK] <;> omega) ⟨by omega, by omega⟩ ⟨qA3 _ ?_, ?_, trivial⟩
     ·rw [hps, qJ6, qJ6, if_pos hin]
     ·rw [hps, qJ6, qJ6, if_pos hin]; rfl
   ·have hp : p = MB.length := by simp at h4; omega
    have hfin : qJ6 U ((MB.take p).map fun y => ior .i64 MA[q] y) = qJ6 [] (unionsL (MA.take (q + 1)) MB) := by
     rw [hp, List.take_length, <-hU, hsucc, addAll_append]
    refine KW.goOut qQ0 qV5 100 rfl (by simp) ?_
    refine KW.goToR qQ0 qV5 100 rfl (q + 1) [(8, 8), (25, 25)] rfl rfl ⟨rfl, rfl, rfl, rfl, rfl, rfl, trivial⟩ (by simp [inK] <;> omega) ⟨by omega, by omega⟩ ⟨qA3 _ hfin, ?_, trivial⟩
    rw [<-hfin]; rfl
  ·have hq : q = MA.length := by simp at h3; omega
   have hU : qJ6 [] (unionsL (MA.take q) MB) = unionsC a b := by rw [hq, List.take_length]; unfold unionsC; rw [hA, hB]
   refine KW.goOut qQ0 qV5 100 rfl (by simp) ?_
   refine KW.go qQ0 qV5 100 rfl (by simp) ?_
   refine KW.frz 8 [53] rfl rfl rfl ?_
   rw [hU]
   have hvu := unionsC_valid va vb
   have hlu : (unionsC a b).length ≤ 1099511627776 := by rw [<-hU]; omega
   refine KW.call0 (minimalO_does (unionsC a b) hvu hlu) (qQ9 Tryz.func112 rfl rfl) [] [(0, 54)] [] (.inl rfl) rfl rfl rfl rfl rfl trivial ⟨⟨_, _, rfl, trivial, .conv (CVEq.refl _)⟩, trivial⟩ rfl trivial rfl ⟨.inl rfl, trivial⟩ rfl rfl (.inl rfl) ?_
   refine KW.go qQ0 qV5 100 rfl (by simp) ?_
   refine KW.call0 (sizedO_does (minS (unionsC a b)) hl) (qQ9 Tryz.func134 rfl rfl) [(0, 54)] [(0, 55)] [] (.inl rfl) rfl rfl rfl rfl rfl trivial ⟨⟨_, _, rfl, trivial, (show Mt _ _ _ (EV.ren [(0, 54)] (.r 0)) (.r 0) from .same)⟩, trivial⟩ rfl ⟨rfl, trivial⟩ rfl ⟨.inl rfl, trivial⟩ rfl rfl (.inl rfl) ?_
   exact KW.goRetR qQ0 qV5 100 rfl [(0, 55)] rfl rfl rfl (by simp) (by exact ⟨rfl, trivial⟩)
theorem hitE_list {l : List Int} (h : hitE l = 0) : qV0 l = 0 := (hitE_zero h).1
theorem allO_does (l : List Int) (h0 : hitE l = 0) : DoesF Tryz.prog 74 [lV l] [] (.tup [.r 0, eV 0]) [(0, .own 3 (qZ5 (hitL l)))] := by
 refine DoesF.body _ Tryz.func74 rfl rfl rfl rfl ?_
 refine KW.goIf qQ0 qY8 100 rfl (by simp) rfl trivial (fun h => absurd h (by simp [hitE_list h0])) fun h => ?_
 ·clear h
  have h := hitE_list h0
  have hv : Val l := qY9 h
  have hml := qB0 l
  have hll := qK0 h
  have hE : (allC [0] (minS l)).2 = 0 := (hitE_zero h0).2.1
  have hL : hitL l = (allC [0] (minS l)).1 := by simp [hitL, h]
  rw [hL]
  refine KW.go qQ0 qY8 100 rfl (by simp) ?_
  simp only [qQ2, h, if_true]
  generalize minS l = M at hml hE hL ⊢
  refine KW.convR 19 (n := 1) (k' := 1) (qZ5 [0]) rfl rfl (fun e q he hq => ?_) ?_
  ·obtain rfl : e = 0 := by omega
   obtain rfl : q = 0 := by omega
   exact CVEq.refl _
  refine KW.lp (I := fun q : List Int × Nat => ⟨Tryz.f74.ntmps, [(6, .e (.r 6)), (20, .e (lV M)), (21, sI M.length), (22, sI q.2)], [(6, .own 3 (qZ5 q.1))]⟩)
   (R := fun q => q.2 ≤ M.length /\ Fam q.1 /\ allC q.1 (M.drop q.2) = allC [0] M) (m := fun q => M.length - q.2) ([0], 0) ⟨by simp, Fam.zero, by simp⟩ [(6, 19)] ⟨rfl, rfl, ⟨rfl, rfl, rfl, rfl, trivial⟩, ⟨rfl, trivial⟩⟩ ?_
  rintro ⟨out, q⟩ ⟨h1, h2, h3⟩
  simp only at h1 h2 h3
  refine KW.goIf qQ0 qY8 100 rfl (by simp) rfl trivial (fun h4 => ?_) fun h4 => ?_
  ·have hq : q < M.length := by simpa using h4
   have hg : M.getD (Int.toNat (q : Int)) 0 = M[q] := by simp [List.getD_eq_getElem?_getD, hq]
   have hd : M.drop q = M[q] :: M.drop (q + 1) := List.drop_eq_getElem_cons hq
   rw [hd, allC] at h3
   refine KW.go qQ0 qY8 100 rfl (by simp; omega) ?_
   refine KW.nilO 9 9 3 (qZ5 []) rfl rfl rfl ?_
   refine KW.lp (I := fun p : Nat => ⟨Tryz.f74.ntmps, [(6, .e (.r 6)), (8, sI M[q]), (9, .e (.r 9)), (20, .e (lV M)), (21, sI M.length), (22, sI q), (26, sI p)], [(6, .own 3 (qZ5 out)), (9, .own 3 (qZ5 (singN M[q] p)))]⟩)
    (R := fun p => p ≤ 24) (m := fun p => 24 - p) 0 (by simp) [(6, 6), (9, 9)] ⟨rfl, rfl, ⟨rfl, by rw [<-hg]; rfl, rfl, rfl, rfl, rfl, rfl, trivial⟩, ⟨rfl, rfl, trivial⟩⟩ ?_
   rintro p hp0
   have hlen := singN_length M[q] p
   refine KW.goIf qQ0 qY8 100 rfl (by simp) rfl trivial (fun h5 => ?_) fun h5 => ?_
   ·have hp : p < 24 := by simp at h5; omega
    have h1 := one_inK hp
    refine KW.goIf qQ0 qY8 100 rfl (by simp) rfl trivial (fun h6 => ?_) fun h6 => ?_
    ·have hb : bit M[q] p = true := by rw [<-hasB_nat _ hp]; exact h6
     refine KW.goToR qQ0 qY8 100 rfl (p + 1) [(6, 6), (9, 36)] rfl rfl ⟨rfl, rfl, rfl, rfl, rfl, rfl, rfl, trivial⟩ (by simp [inK, qC0] <;> omega) ⟨by omega, by omega⟩ ⟨rfl, qC3 _ ?_, trivial⟩
     rw [singN_succ, hb]; rfl
    ·have hb : bit M[q] p = false := by rw [<-hasB_nat _ hp]; exact h6
     refine KW.goToR qQ0 qY8 100 rfl (p + 1) [(6, 6), (9, 9)] rfl rfl ⟨rfl, rfl, rfl, rfl, rfl, rfl, rfl, trivial⟩ (by simp [inK] <;> omega) ⟨by omega, by omega⟩ ⟨rfl, qA3 _ ?_, trivial⟩
     rw [singN_succ, hb]; simp
   ·have hp : p = 24 := by simp at h5; omega
    subst hp
    refine KW.goOut qQ0 qY8 100 rfl (by simp) ?_
    refine KW.go qQ0 qY8 100 rfl (by simp) ?_
    have hst : stepA out M[q] = 0 := by
     refine Classical.byContradiction fun hne => ?_
     rw [if_neg hne] at h3
     rw [<-h3] at hE
     exact hne hE
    rw [if_pos hst] at h3
    obtain ⟨w1, w2⟩ := h2.step hst
    have hbo := h2.both M[q]
    have hlim : ¬ 1024 < (minS (unionsC out (singS M[q]))).length := by rw [<-w2]; have := w1.len; omega
    refine KW.frz 9 [40] rfl rfl rfl ?_
    refine KW.frz 6 [39] rfl rfl rfl ?_
    refine KW.call0 (productO_does out (singS M[q]) hbo hlim) (qQ9 Tryz.func110 rfl rfl) [] [(0, 41)] [] (.inl rfl) rfl rfl rfl rfl rfl trivial ⟨⟨_, _, rfl, trivial, .conv (CVEq.refl _)⟩, ⟨_, _, rfl, trivial, .conv (CVEq.refl _)⟩, trivial⟩ rfl trivial rfl ⟨.inl rfl, trivial⟩ rfl rfl (.inl rfl) ?_
    rw [<-w2]
    refine KW.goIf qQ0 qY8 100 rfl (by simp) rfl trivial (fun h7 => absurd h7 (by simp)) fun h7 => ?_
    exact KW.goToR qQ0 qY8 100 rfl (resA out M[q], q + 1) [(6, 41)] rfl rfl ⟨rfl, rfl, rfl, rfl, trivial⟩ (by simp [inK] <;> omega) ⟨⟨by simp only; omega, w1, h3⟩, by simp only; omega⟩ ⟨rfl, trivial⟩
  ·have hq : q = M.length := by simp at h4; omega
   refine KW.goOut qQ0 qY8 100 rfl (by simp) ?_
   rw [hq, List.drop_length, allC] at h3
   rw [<-h3]
   exact KW.goRetR qQ0 qY8 100 rfl [(0, 6)] rfl rfl rfl (by simp) (by exact ⟨rfl, trivial⟩)
end Go.Proofs.YtgoilpfpmbjegaaGreatDoor
end
