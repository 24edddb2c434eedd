/-
  SyDa, SyDb, one text.
-/
import Derived.Test.YtpjhpcclbenfbaaSyZ
set_option linter.unusedVariables false
set_option linter.unusedSimpArgs false
/-
  SYMBOLIC STATES: a region that draws its order, some operations of which lay new memory.
-/
namespace Go.Sy
abbrev Tri := Nat × SV × List (Nat × Res)
def slotsX (ps : List Tri) : List (Nat × SV) := ps.map fun p => (p.1, p.2.1)
def resOf (ls : Nat → Bool) : Nat → List Tri → List (Nat × Res)
  | _, [] => []
  | k, p :: l => (if ls k = true then p.2.2 else []) ++ resOf ls (k + 1) l
theorem slotsX_length (ps : List Tri) : (slotsX ps).length = ps.length := by simp [slotsX]
theorem slotsX_get {ps : List Tri} {j d : Nat} {y : SV} {rn : List (Nat × Res)} (h : ps[j]? = some (d, y, rn)) : (slotsX ps)[j]? = some (d, y) := by simp [slotsX, h]
theorem slotsX_inv {ps : List Tri} {j d : Nat} {y : SV} (h : (slotsX ps)[j]? = some (d, y)) : ∃ y' rn, ps[j]? = some (d, y', rn) := by
  simp only [slotsX, List.getElem?_map, Option.map_eq_some_iff] at h
  obtain ⟨⟨d', y', rn⟩, h1, h2⟩ := h
  cases h2
  exact ⟨_, _, h1⟩
theorem resOf_congr_k {ls ls' : Nat → Bool} : ∀ {ps : List Tri} {k : Nat}, (∀ j, j < ps.length → ls (k + j) = ls' (k + j)) → resOf ls k ps = resOf ls' k ps
  | [], k, h => rfl
  | p :: l, k, h => by
    have h0 := h 0 (by simp)
    simp only [Nat.add_zero] at h0
    simp only [resOf, h0]
    congr 1
    exact resOf_congr_k fun j hj => by have := h (j + 1) (by simpa using hj); rwa [show k + (j + 1) = k + 1 + j by omega] at this
theorem resOf_congr {ls ls' : Nat → Bool} {ps : List Tri} (h : ∀ j, j < ps.length → ls j = ls' j) : resOf ls 0 ps = resOf ls' 0 ps := resOf_congr_k fun j hj => by simpa using h j hj
theorem resOf_none_k {ls : Nat → Bool} (h : ∀ j, ls j = false) : ∀ {ps : List Tri} {k : Nat}, resOf ls k ps = []
  | [], k => rfl
  | p :: l, k => by simp [resOf, h k, resOf_none_k h]
theorem resOf_none {ls : Nat → Bool} {ps : List Tri} (h : ∀ j, ls j = false) : resOf ls 0 ps = [] := resOf_none_k h
theorem resOf_mem_k {ls : Nat → Bool} {t : Nat} {r : Res} : ∀ {ps : List Tri} {k : Nat}, (t, r) ∈ resOf ls k ps → ∃ (j d : Nat) (y : SV) (rn : List (Nat × Res)), ps[j]? = some (d, y, rn) ∧ ls (k + j) = true ∧ (t, r) ∈ rn
  | [], k, h => by simp [resOf] at h
  | (d, y, rn) :: l, k, h => by
    simp only [resOf, List.mem_append] at h
    rcases h with h | h
    · split at h
      · rename_i hk; exact ⟨0, d, y, rn, rfl, hk, h⟩
      · cases h
    · obtain ⟨j, d', y', rn', h1, h2, h3⟩ := resOf_mem_k h
      exact ⟨j + 1, d', y', rn', by simpa using h1, by rw [show k + (j + 1) = k + 1 + j by omega]; exact h2, h3⟩
theorem resOf_mem {ls : Nat → Bool} {ps : List Tri} {t : Nat} {r : Res} (h : (t, r) ∈ resOf ls 0 ps) : ∃ (j d : Nat) (y : SV) (rn : List (Nat × Res)), ps[j]? = some (d, y, rn) ∧ ls (0 + j) = true ∧ (t, r) ∈ rn := resOf_mem_k h
/-- each lays what bears its own slot's number, if it lays anything -/
def OwnKeys (ps : List Tri) : Prop := ∀ (j d : Nat) (y : SV) (rn : List (Nat × Res)), ps[j]? = some (d, y, rn) → rn = [] ∨ ∃ r, rn = [(d, r)]
theorem lk_app_none {l base : List (Nat × Res)} {i : Nat} (h : ∀ r, (i, r) ∉ l) : lk (l ++ base) i = lk base i := by
  induction l with
  | nil => rfl
  | cons p l ih =>
    obtain ⟨k, r⟩ := p
    rw [List.cons_append, lk_cons, if_neg (fun e => h r (by rw [← e]; exact .head _)), ih fun r' hr => h r' (.tail _ hr)]
theorem freshR_mem {d : Nat} : ∀ {l : List (Nat × Res)}, freshR d l = true → ∀ {t : Nat} {r : Res}, (t, r) ∈ l → t ≠ d ∧ r.men d = false
  | [], _, t, r, h => by cases h
  | (j, r0) :: l, hf, t, r, h => by
    simp only [freshR, Bool.and_eq_true, Bool.not_eq_true'] at hf
    rcases List.mem_cons.1 h with e | e
    · cases e
      exact ⟨fun e => by subst e; simp at hf, hf.2.1⟩
    · exact freshR_mem hf.2.2 e
theorem freshR_of {d : Nat} : ∀ {l : List (Nat × Res)}, (∀ (t : Nat) (r : Res), (t, r) ∈ l → t ≠ d ∧ r.men d = false) → freshR d l = true
  | [], _ => rfl
  | (j, r0) :: l, h => by
    have h0 := h j r0 (.head _)
    have hb : Nat.beq j d = false := by
      cases hb : Nat.beq j d with
      | false => rfl
      | true => exact absurd (Nat.eq_of_beq_eq_true hb) h0.1
    simp only [freshR, hb, h0.2, Bool.not_false, Bool.true_and]
    exact freshR_of fun t r hm => h t r (.tail _ hm)
theorem freshS_of {d : Nat} : ∀ {l : List (Nat × SV)}, (∀ (t : Nat) (x : SV), (t, x) ∈ l → x.men d = false) → freshS d l = true
  | [], _ => rfl
  | (j, x) :: l, h => by
    simp only [freshS, h j x (.head _), Bool.not_false, Bool.true_and]
    exact freshS_of fun t x hm => h t x (.tail _ hm)
theorem freshS_mem {d : Nat} : ∀ {l : List (Nat × SV)}, freshS d l = true → ∀ {t : Nat} {x : SV}, (t, x) ∈ l → x.men d = false
  | [], _, t, x, h => by cases h
  | (j, x0) :: l, hf, t, x, h => by
    simp only [freshS, Bool.and_eq_true, Bool.not_eq_true'] at hf
    rcases List.mem_cons.1 h with e | e
    · cases e; exact hf.1
    · exact freshS_mem hf.2 e
theorem fresh_super {n d : Nat} {sl sl0 : List (Nat × SV)} {rs rs0 : List (Nat × Res)} (f2 : freshS d sl0 = true) (f3 : freshR d rs0 = true) (h1 : ∀ (t : Nat) (x : SV), (t, x) ∈ sl → x.men d = false) (h2 : ∀ (t : Nat) (r : Res), (t, r) ∈ rs → t ≠ d ∧ r.men d = false) : freshB ⟨n, sl ++ sl0, rs ++ rs0⟩ d = true := by
  simp only [freshB, Bool.and_eq_true]
  refine ⟨freshS_of fun t x hm => ?_, freshR_of fun t r hm => ?_⟩
  · rcases List.mem_append.1 hm with h | h
    · exact h1 t x h
    · exact freshS_mem f2 h
  · rcases List.mem_append.1 hm with h | h
    · exact h2 t r h
    · exact freshR_mem f3 h
theorem lk_mem {α : Type} : ∀ {l : List (Nat × α)} {i : Nat} {r : α}, lk l i = some r → (i, r) ∈ l
  | [], _, _, h => by simp [lk] at h
  | (j, x) :: l, i, r, h => by
    rw [lk_cons] at h
    split at h
    · rename_i e; subst e; cases h; exact .head _
    · exact .tail _ (lk_mem h)
theorem resOf_base {ls : Nat → Bool} {ps : List Tri} {rs : List (Nat × Res)} (hk : OwnKeys ps) (hf : ∀ (j d : Nat) (y : SV) (rn : List (Nat × Res)), ps[j]? = some (d, y, rn) → rn ≠ [] → freshR d rs = true) {i : Nat} {r : Res} (h : lk rs i = some r) : lk (resOf ls 0 ps ++ rs) i = some r := by
  rw [lk_app_none fun r' hm => ?_]
  · exact h
  · obtain ⟨j, d, y, rn, h1, h2, h3⟩ := resOf_mem hm
    rcases hk j d y rn h1 with e | ⟨r0, e⟩
    · rw [e] at h3; cases h3
    · rw [e] at h3
      simp only [List.mem_singleton, Prod.mk.injEq] at h3
      have := freshR_mem (hf j d y rn h1 (by rw [e]; simp)) (lk_mem h)
      exact this.1 h3.1
theorem resOf_upd {ls ls' : Nat → Bool} {base : List (Nat × Res)} {d : Nat} {y : SV} {rn : List (Nat × Res)} {t : Nat} (ht : ∀ r, (t, r) ∉ rn) : ∀ {ps : List Tri} {k i : Nat}, ps[i]? = some (d, y, rn) → (∀ j, j ≠ i → ls' (k + j) = ls (k + j)) → lk (resOf ls' k ps ++ base) t = lk (resOf ls k ps ++ base) t
  | [], k, i, h, _ => by simp at h
  | p :: l, k, 0, h, hl => by
    simp at h
    subst h
    have : resOf ls' (k + 1) l = resOf ls (k + 1) l := resOf_congr_k fun j hj => by have := hl (j + 1) (by omega); rwa [show k + (j + 1) = k + 1 + j by omega] at this
    simp only [resOf, this, List.append_assoc]
    have e1 : ∀ (b : Bool) (X : List (Nat × Res)), lk ((if b = true then rn else []) ++ X) t = lk X t := fun b X => lk_app_none fun r hm => by
      split at hm
      · exact ht r hm
      · cases hm
    rw [e1, e1]
  | p :: l, k, i + 1, h, hl => by
    have h0 := hl 0 (by omega)
    simp only [Nat.add_zero] at h0
    have ih := resOf_upd (ls := ls) (ls' := ls') (base := base) ht (ps := l) (k := k + 1) (i := i) (by simpa using h) fun j hj => by have := hl (j + 1) (by omega); rwa [show k + (j + 1) = k + 1 + j by omega] at this
    simp only [resOf, h0, List.append_assoc]
    generalize (if ls k = true then p.2.2 else []) = pre
    induction pre with
    | nil => exact ih
    | cons q pre ih2 => rw [List.cons_append, List.cons_append, lk_cons, lk_cons, ih2]
theorem resOf_hit {ls : Nat → Bool} {base : List (Nat × Res)} {d : Nat} {y : SV} {r : Res} : ∀ {ps : List Tri} {k i : Nat}, ps[i]? = some (d, y, [(d, r)]) → ls (k + i) = true → OwnKeys ps → (slotsX ps).Pairwise (fun a b => a.1 ≠ b.1) → lk (resOf ls k ps ++ base) d = some r
  | [], k, i, h, _, _, _ => by simp at h
  | p :: l, k, 0, h, hl, _, _ => by
    simp at h
    subst h
    simp only [Nat.add_zero] at hl
    simp only [resOf, hl, if_true, List.cons_append, lk_cons]
  | p :: l, k, i + 1, h, hl, hk, hpw => by
    have hpw' : (slotsX (p :: l)) = (p.1, p.2.1) :: slotsX l := rfl
    rw [hpw'] at hpw
    obtain ⟨hp1, hp2⟩ := List.pairwise_cons.1 hpw
    have hi : l[i]? = some (d, y, [(d, r)]) := by simpa using h
    have ih := resOf_hit (base := base) hi (by rw [show k + 1 + i = k + (i + 1) by omega]; exact hl) (fun j d' y' rn' hj => hk (j + 1) d' y' rn' (by simpa using hj)) hp2
    simp only [resOf, List.append_assoc]
    rw [lk_app_none fun r' hm => ?_]
    · exact ih
    · split at hm
      · rcases hk 0 p.1 p.2.1 p.2.2 rfl with e | ⟨r0, e⟩
        · rw [e] at hm; cases hm
        · rw [e] at hm
          simp only [List.mem_singleton, Prod.mk.injEq] at hm
          exact hp1 (d, y) (List.mem_of_getElem? (slotsX_get hi)) hm.1.symm
      · cases hm
theorem resOf_step {ls ls' : Nat → Bool} {base : List (Nat × Res)} {d : Nat} {y : SV} {rn : List (Nat × Res)} {ps : List Tri} {i : Nat} (hk : OwnKeys ps) (hpw : (slotsX ps).Pairwise (fun a b => a.1 ≠ b.1)) (h : ps[i]? = some (d, y, rn)) (hi : ls' i = true) (hl : ∀ j, j ≠ i → ls' j = ls j) {t : Nat} {r : Res} (hr : lk (resOf ls' 0 ps ++ base) t = some r) :
    lk (rn ++ (resOf ls 0 ps ++ base)) t = some r := by
  rcases hk i d y rn h with e | ⟨r0, e⟩
  · subst e
    rw [resOf_upd (ls := ls) (by simp) h (by simpa using hl)] at hr
    exact hr
  · subst e
    rw [List.cons_append, lk_cons]
    split
    · rename_i htd
      subst htd
      rw [resOf_hit (k := 0) h (by simpa using hi) hk hpw] at hr
      exact hr
    · rename_i htd
      rw [resOf_upd (ls := ls) (fun r' hm => by simp at hm; exact htd hm.1.symm) h (by simpa using hl)] at hr
      exact hr

def isNew : Op → Bool
  | .alloc _ => true
  | .buildSlice _ _ _ => true
  | _ => false
def stepX (lay : Lay) (fns : Fns) (B : St) (ops : Array Oper) (op : Oper) : Option (SV × List (Nat × Res) × Prop) :=
  match stepD lay fns B ops op with
  | some (y, φ) => some (y, [], φ)
  | none => match isNew op.op, op.guard, op.dst, evE lay B op with
    | true, none, some d, some (⟨_, _, (_, r) :: _⟩, φ) => some (.e (.r d), [(d, r)], φ)
    | _, _, _, _ => none
def drawX (lay : Lay) (fns : Fns) (ops : Array Oper) (rs0 : List (Nat × Res)) (n : Nat) : List Oper → List (Nat × SV) → Prop → Option (List Tri × Prop)
  | [], _, φ => some ([], φ)
  | op :: l, sl, φ => match op.dst with
    | some d => match Nat.blt d n, stepX lay fns ⟨n, pickS sl (looks ops op), rs0⟩ ops op with
      | true, some (y, rn, ψ) => match drawX lay fns ops rs0 n l ((d, y) :: sl) (φ ∧ ψ) with
        | some (ps, χ) => some ((d, y, rn) :: ps, χ)
        | none => none
      | _, _ => none
    | none => none
theorem drawX_spec {lay : Lay} {fns : Fns} {ops : Array Oper} {rs0 : List (Nat × Res)} {n : Nat} : ∀ {l : List Oper} {sl : List (Nat × SV)} {prs : List Tri} {φ φ' : Prop}, drawX lay fns ops rs0 n l sl φ = some (prs, φ') → φ' → φ ∧ prs.length = l.length ∧
    ∀ (i : Nat) op, l[i]? = some op → ∃ d y rn ψ, prs[i]? = some (d, y, rn) ∧ op.dst = some d ∧ Nat.blt d n = true ∧ stepX lay fns ⟨n, pickS (((slotsX prs).take i).reverse ++ sl) (looks ops op), rs0⟩ ops op = some (y, rn, ψ) ∧ ψ
  | [], sl, prs, φ, φ', h, hφ => by
    simp only [drawX, Option.some.injEq, Prod.mk.injEq] at h
    obtain ⟨rfl, rfl⟩ := h
    exact ⟨hφ, rfl, by simp⟩
  | op :: l, sl, prs, φ, φ', h, hφ => by
    simp only [drawX] at h
    split at h
    · rename_i d hd
      split at h
      · rename_i y rn ψ hlt hs
        split at h
        · rename_i ps χ hrec
          simp only [Option.some.injEq, Prod.mk.injEq] at h
          obtain ⟨rfl, rfl⟩ := h
          obtain ⟨h1, h2, h4⟩ := drawX_spec hrec hφ
          refine ⟨h1.1, by simp [h2], fun i op' hi => ?_⟩
          cases i with
          | zero => simp at hi; subst hi; exact ⟨d, y, rn, ψ, by simp, hd, hlt, by simpa using hs, h1.2⟩
          | succ i =>
            simp at hi
            obtain ⟨d', y', rn', ψ', g1, g2, g3, g4, g5⟩ := h4 i op' hi
            exact ⟨d', y', rn', ψ', by simpa using g1, g2, g3, by simpa [slotsX] using g4, g5⟩
        · cases h
      · cases h
    · cases h
theorem stepX_rn {lay : Lay} {fns : Fns} {ops : Array Oper} {rs0 : List (Nat × Res)} {n : Nat} {l : List Oper} {sl : List (Nat × SV)} {prs : List Tri} (hlen : prs.length = l.length)
    (h : ∀ (i : Nat) op, l[i]? = some op → ∃ d y rn ψ, prs[i]? = some (d, y, rn) ∧ op.dst = some d ∧ Nat.blt d n = true ∧ stepX lay fns ⟨n, pickS (((slotsX prs).take i).reverse ++ sl) (looks ops op), rs0⟩ ops op = some (y, rn, ψ) ∧ ψ) : OwnKeys prs := by
  intro j d y rn hj
  have hlt : j < l.length := by rw [← hlen]; exact (List.getElem?_eq_some_iff.1 hj).1
  obtain ⟨d', y', rn', ψ, g1, g2, g3, g4, g5⟩ := h j l[j] (List.getElem?_eq_getElem hlt)
  rw [hj] at g1
  cases g1
  unfold stepX at g4
  split at g4
  · simp only [Option.some.injEq, Prod.mk.injEq] at g4
    exact .inl g4.2.1.symm
  · split at g4
    · rename_i d2 n2 sl2 k2 r2 l2 φ2 _ _ hd2 _
      simp only [Option.some.injEq, Prod.mk.injEq] at g4
      rw [g2] at hd2
      cases hd2
      exact .inr ⟨_, g4.2.1.symm⟩
    · cases g4
def freshAt (d j : Nat) : Nat → List Tri → Bool
  | _, [] => true
  | k, (_, y, rn) :: l => (Nat.beq k j || (!y.men d && freshR d rn)) && freshAt d j (k + 1) l
def freshX1 (prs : List Tri) (A : St) : Nat → List Tri → Bool
  | _, [] => true
  | j, (d, _, rn) :: l => (match rn with
    | [] => true
    | _ => freshAt d j 0 prs && (freshS d A.sl && freshR d A.rs)) && freshX1 prs A (j + 1) l
def freshX (prs : List Tri) (A : St) : Bool := freshX1 prs A 0 prs
theorem freshAt_ok {d j : Nat} : ∀ {l : List Tri} {k : Nat}, freshAt d j k l = true → ∀ (i d' : Nat) (y : SV) (rn : List (Nat × Res)), l[i]? = some (d', y, rn) → k + i ≠ j → y.men d = false ∧ freshR d rn = true
  | [], _, _, i, d', y, rn, h, _ => by simp at h
  | (a, b, c) :: l, k, hf, i, d', y, rn, h, hne => by
    simp only [freshAt, Bool.and_eq_true, Bool.or_eq_true, Bool.not_eq_true'] at hf
    cases i with
    | zero =>
      simp at h
      obtain ⟨rfl, rfl, rfl⟩ := h
      rcases hf.1 with h1 | h1
      · exact absurd (Nat.eq_of_beq_eq_true h1) (by simpa using hne)
      · exact h1
    | succ i => exact freshAt_ok hf.2 i d' y rn (by simpa using h) (by omega)
theorem freshX1_ok {prs : List Tri} {A : St} : ∀ {l : List Tri} {k : Nat}, freshX1 prs A k l = true → ∀ (i d : Nat) (y : SV) (rn : List (Nat × Res)), l[i]? = some (d, y, rn) → rn ≠ [] → freshAt d (k + i) 0 prs = true ∧ freshS d A.sl = true ∧ freshR d A.rs = true
  | [], _, _, i, d, y, rn, h, _ => by simp at h
  | (a, b, c) :: l, k, hf, i, d, y, rn, h, hne => by
    simp only [freshX1, Bool.and_eq_true] at hf
    cases i with
    | zero =>
      simp at h
      obtain ⟨rfl, rfl, rfl⟩ := h
      have h1 := hf.1
      split at h1
      · exact absurd rfl hne
      · simpa [Bool.and_eq_true, and_assoc] using h1
    | succ i =>
      have := freshX1_ok hf.2 i d y rn (by simpa using h) hne
      rwa [show k + 1 + i = k + (i + 1) by omega] at this
theorem freshX_ok {prs : List Tri} {A : St} (h : freshX prs A = true) : ∀ (j d : Nat) (y : SV) (rn : List (Nat × Res)), prs[j]? = some (d, y, rn) → rn ≠ [] → (∀ (i d' : Nat) (y' : SV) (rn' : List (Nat × Res)), prs[i]? = some (d', y', rn') → i ≠ j → y'.men d = false ∧ freshR d rn' = true) ∧ freshS d A.sl = true ∧ freshR d A.rs = true := by
  intro j d y rn hj hne
  obtain ⟨h1, h2, h3⟩ := freshX1_ok h j d y rn hj hne
  exact ⟨fun i d' y' rn' hi hij => freshAt_ok h1 i d' y' rn' hi (by omega), h2, h3⟩


section
variable {P : Program} {lay : Lay} {A A' B : St} {Q : Exit → St → Prop} {fns : Fns} {o : Nat → Tag} {h : Nat → Value} {tm : Array Value} {w : World}
/-- 'B' is a part of 'A' -/
structure St.sub (B A : St) : Prop where
  n : B.n = A.n
  rs : ∀ i r, lk B.rs i = some r → lk A.rs i = some r
  sl : ∀ t x, lk B.sl t = some x → lk A.sl t = some x

theorem Sat.subX (hle : St.sub B A) (hs : Sat o h A tm w) : Sat o h B tm w := ⟨hle.n ▸ hs.size, hs.tags, fun s x hl => hs.slot s x (hle.sl s x hl), fun i r hl => hs.res i r (hle.rs i r hl)⟩
theorem rd_upS (hle : St.sub B A) {x : Operand} {r : EV × Prop} (hr : rd B x = some r) : rd A x = some r := by
  cases x with
  | tmp t =>
    simp only [rd] at hr ⊢
    split at hr
    · rename_i e; rw [hle.sl _ _ e]; exact hr
    · rename_i x hne e
      rw [hle.sl _ _ e]
      cases x with
      | gd b y => exact (hne b y rfl).elim
      | _ => exact hr
    · cases hr
  | _ => exact hr
theorem argE_upS (hle : St.sub B A) {z : EV} {r : EV × List Nat} (hr : argE B z = some r) : argE A z = some r := by
  unfold argE at hr ⊢
  split at hr
  · exact hr
  · exact hr
  · split at hr
    · rename_i e; rw [hle.rs _ _ e]; exact hr
    · cases hr
  · cases hr
theorem argsE_upS (hle : St.sub B A) : ∀ {xs : List Operand} {r}, argsE B xs = some r → argsE A xs = some r
  | [], r, hr => hr
  | x :: xs, r, hr => by
    simp only [argsE] at hr ⊢
    split at hr
    · rename_i z p e
      rw [rd_upS hle e]
      split at hr
      · rename_i y L e2
        have e2' : argE A z = some (y, L) := argE_upS hle e2
        simp only [e2']
        split at hr
        · rename_i e3
          rw [argsE_upS hle e3]; exact hr
        · cases hr
      · cases hr
    · cases hr
theorem stepC_upS (hle : St.sub B A) {op : Oper} {r : SV × Prop} (hr : stepC fns B op = some r) : stepC fns A op = some r := by
  unfold stepC at hr ⊢
  split at hr
  · split at hr
    · split at hr
      · split at hr
        · rename_i e2
          simp only [argsE_upS hle e2]
          exact hr
        · cases hr
      · cases hr
    · cases hr
  · cases hr

theorem stepD_wpS (hl : LayOk P lay) (hT : FnsOk P fns) {ops : Array Oper} {i : Nat} {op : Oper} (hi : ops[i]? = some op) {y : SV} {φ : Prop} {d : Nat} (hle : St.sub B A) (hs : Sat o h A tm w) (hd : op.dst = some d) (hlt : Nat.blt d A.n = true)
    (hc : stepD lay fns B ops op = some (y, φ)) (hφ : φ) {K : Act → World → Prop} {QQ : Exit → Act → World → Prop}
    (hn : ∀ o2 h2 v w1, Sat o2 h2 ⟨A.n, (d, y) :: A.sl, A.rs⟩ (tm.setIfInBounds d v) w1 → Ext o w o2 w1 → K ⟨tm.setIfInBounds d v, []⟩ w1) : wpOp P ops QQ i K ⟨tm, []⟩ w := by
  have hsB := hs.subX hle
  have hlt' : d < A.n := by simpa [Nat.blt, Nat.succ_le_iff] using hlt
  have hput : ∀ v, (⟨tm, []⟩ : Act).put op.dst v = ⟨tm.setIfInBounds d v, []⟩ := fun v => by simp [Act.put, hd]
  have pure_wp : ∀ {x φ'}, evP lay B op = some (x, φ') → φ' → ∀ y', (∀ v, SvOk o h w x v → SvOk o h w y' v) → (∀ o2 h2 v w1, Sat o2 h2 ⟨A.n, (d, y') :: A.sl, A.rs⟩ (tm.setIfInBounds d v) w1 → Ext o w o2 w1 → K ⟨tm.setIfInBounds d v, []⟩ w1) → op.wp P ⟨tm, []⟩ w K QQ := by
    intro x φ' he hφ' y' hy' hn'
    obtain ⟨v, hr, hv⟩ := evP_ok hl hsB he hφ'
    unfold Oper.wp
    show op.upon P ⟨tm, []⟩ _ _ ((execOp (evl tm) op).run P w)
    rw [hr]
    show K ((⟨tm, []⟩ : Act).put op.dst v) w
    rw [hput]
    exact hn' o h v w (hs.put hlt' (hy' v hv)) (Ext.refl o w)
  have skip_ok : ∀ {x}, SvOk o h w (.e (.gd false x)) undef := fun {x} => ⟨fun e => Bool.noConfusion e, fun _ => rfl⟩
  unfold wpOp
  simp only [hi]
  unfold stepD at hc
  split at hc
  · rename_i hg
    rw [if_pos (by simp [Region.wanted, hg])]
    left
    split at hc
    · rename_i r he
      simp only [Option.some.injEq] at hc
      subst hc
      exact pure_wp he hφ y (fun v hv => hv) hn
    · exact stepC_wp hT hs hd hlt (stepC_upS hle hc) hφ hn
  · rename_i j want hg
    split at hc
    · rename_i b hb
      have hskip : ∀ x, y = .e (.gd b x) → b = false → K (Act.put ⟨tm, []⟩ op.dst undef) w := by
        intro x hy hbf
        subst hy
        rw [hput]
        exact hn o h undef w (hs.put hlt' (by rw [hbf]; exact skip_ok)) (Ext.refl o w)
      have hwant : b = true → Region.wanted op (yielded ops (⟨tm, []⟩ : Act).tmps) = true := fun hbt => by simp [Region.wanted, hg, gdOf_true hsB hb hbt]
      have hwant' : b = false → ¬ Region.wanted op (yielded ops (⟨tm, []⟩ : Act).tmps) = true := fun hbf => by simp [Region.wanted, hg, gdOf_false hsB hb hbf]
      split at hc
      · rename_i x φ' he
        simp only [Option.some.injEq, Prod.mk.injEq] at hc
        obtain ⟨rfl, rfl⟩ := hc
        cases hbb : b with
        | true =>
          rw [if_pos (hwant hbb)]
          left
          exact pure_wp he (hφ hbb) (.e (.gd b x)) (fun v hv => (show SvOk o h w (.e (.gd b x)) v from ⟨fun _ => hv, fun e => by rw [hbb] at e; cases e⟩)) hn
        | false => rw [if_neg (hwant' hbb)]; exact hskip x rfl hbb
      · split at hc
        · rename_i x φ' he
          simp only [Option.some.injEq, Prod.mk.injEq] at hc
          obtain ⟨rfl, rfl⟩ := hc
          cases hbb : b with
          | true =>
            rw [if_pos (hwant hbb)]
            left
            refine stepC_wp hT hs hd hlt (stepC_upS hle he) (hφ hbb) fun o2 h2 v w1 hs2 hext => hn o2 h2 v w1 ?_ hext
            refine ⟨hs2.size, hs2.tags, fun s z hl => ?_, hs2.res⟩
            rw [lk_cons] at hl
            split at hl
            · rename_i e; cases hl; exact (show SvOk o2 h2 w1 (.e (.gd b x)) _ from ⟨fun _ => hs2.slot s (.e x) (by rw [lk_cons, if_pos e]), fun e => by rw [hbb] at e; cases e⟩)
            · rename_i hne; exact hs2.slot s z (by rw [lk_cons, if_neg hne]; exact hl)
          | false => rw [if_neg (hwant' hbb)]; exact hskip x rfl hbb
        · cases hc
    · cases hc

theorem partC_up (hle : St.sub B A) {x : Operand} {r : List CV × Prop} (hr : partC B x = some r) : partC A x = some r := by
  unfold partC at hr ⊢
  split at hr
  · rename_i y p e; rw [rd_upS hle e]; exact hr
  · rename_i cs p e; rw [rd_upS hle e]; exact hr
  · cases hr
theorem fillC_up (hle : St.sub B A) {place : Nat → Option (Nat × Nat)} : ∀ {ps : List (Nat × Operand)} {cs : List CV} {r : List CV × Prop}, fillC B place cs ps = some r → fillC A place cs ps = some r
  | [], cs, r, hr => hr
  | (i, x) :: rest, cs, r, hr => by
    simp only [fillC] at hr ⊢
    split at hr
    · rename_i off s xs p e1 e2
      simp only [e1, partC_up hle e2]
      split at hr
      · split at hr
        · rename_i cs' q e3
          simp only [fillC_up hle e3]
          exact hr
        · cases hr
      · cases hr
    · cases hr
theorem evE_up (hle : St.sub B A) {op : Oper} {d : Nat} (hd : op.dst = some d) (hnew : isNew op.op = true) (hf : freshB A d = true) {n : Nat} {sl : List (Nat × SV)} {k : Nat} {r : Res} {rs : List (Nat × Res)} {φ : Prop} (he : evE lay B op = some (⟨n, sl, (k, r) :: rs⟩, φ)) :
    evE lay A op = some (⟨A.n, (d, .e (.r d)) :: A.sl, (d, r) :: A.rs⟩, φ) := by
  cases hop : op.op <;> simp only [hop, isNew, Bool.false_eq_true] at hnew
  · rename_i T
    simp only [evE, hop, hd] at he ⊢
    split at he
    · rename_i rw1 e1 e2 e3
      simp only [Option.some.injEq, Prod.mk.injEq, St.mk.injEq, List.cons.injEq] at he
      obtain ⟨⟨_, _, ⟨_, hr⟩, _⟩, hφ⟩ := he
      rw [hle.n] at e2
      simp only [e1, e2, hf, ← hr, ← hφ]
    · cases he
  · rename_i T len ps
    simp only [evE, hop, hd] at he ⊢
    split at he
    · rename_i sz ag E es by' z e1 e2 e3
      rw [hle.n] at e2
      simp only [e1, e2, hf]
      split at he
      · rename_i rE e4 e5
        try simp only [e4, e5]
        split at he
        · rename_i cs p e6
          simp only [fillC_up hle e6]
          split at he
          · rename_i xs e7 e8
            try simp only [e7, e8]
            split at he
            · rename_i e9
              try simp only [e9]
              simp only [Option.some.injEq, Prod.mk.injEq, St.mk.injEq, List.cons.injEq] at he
              obtain ⟨⟨_, _, ⟨_, hr⟩, _⟩, hφ⟩ := he
              simp only [← hr, ← hφ]
            · cases he
          · rename_i e7
            simp only [Option.some.injEq, Prod.mk.injEq, St.mk.injEq, List.cons.injEq] at he
            obtain ⟨⟨_, _, ⟨_, hr⟩, _⟩, hφ⟩ := he
            simp only [← hr, ← hφ]
        · cases he
      · cases he
    · cases he
theorem stepX_wp (hl : LayOk P lay) (hT : FnsOk P fns) {ops : Array Oper} {i : Nat} {op : Oper} (hi : ops[i]? = some op) {y : SV} {rn : List (Nat × Res)} {φ : Prop} {d : Nat} (hle : St.sub B A) (hs : Sat o h A tm w) (hd : op.dst = some d) (hlt : Nat.blt d A.n = true)
    (hc : stepX lay fns B ops op = some (y, rn, φ)) (hφ : φ) (hfr : rn ≠ [] → freshB A d = true) {K : Act → World → Prop} {QQ : Exit → Act → World → Prop}
    (hn : ∀ o2 h2 v w1, Sat o2 h2 ⟨A.n, (d, y) :: A.sl, rn ++ A.rs⟩ (tm.setIfInBounds d v) w1 → Ext o w o2 w1 → K ⟨tm.setIfInBounds d v, []⟩ w1) : wpOp P ops QQ i K ⟨tm, []⟩ w := by
  unfold stepX at hc
  split at hc
  · rename_i y' φ' hD
    simp only [Option.some.injEq, Prod.mk.injEq] at hc
    obtain ⟨rfl, rfl, rfl⟩ := hc
    exact stepD_wpS hl hT hi hle hs hd hlt hD hφ hn
  · split at hc
    · rename_i d' n2 sl2 k2 r2 l2 φ2 hnew hg hd2 hE
      simp only [Option.some.injEq, Prod.mk.injEq] at hc
      obtain ⟨rfl, rfl, rfl⟩ := hc
      rw [hd] at hd2
      cases hd2
      have hA := evE_up hle hd hnew (hfr (by simp)) hE
      obtain ⟨x, v, w', o', h', hr, hx, hs', hext⟩ := evE_ok hl hA hφ o h tm w hs
      unfold wpOp
      simp only [hi]
      rw [if_pos (by simp [Region.wanted, hg])]
      left
      unfold Oper.wp
      show op.upon P ⟨tm, []⟩ _ _ ((execOp (evl tm) op).run P w)
      rw [hr]
      have hput : ∀ v, (⟨tm, []⟩ : Act).put op.dst v = ⟨tm.setIfInBounds d v, []⟩ := fun v => by simp [Act.put, hd]
      rw [hput] at hs'
      rcases hx with rfl | ⟨rfl, rfl⟩
      · show K ((⟨tm, []⟩ : Act).put op.dst v) w'
        rw [hput]
        exact hn o' h' v w' hs' hext
      · show K ((⟨tm, []⟩ : Act).put op.dst undef) w'
        rw [hput]
        exact hn o' h' undef w' hs' hext
    · cases hc
/-- The same where operations of the first part may lay new memory. -/
theorem KW.drawnX (hl : LayOk P lay) (hT : FnsOk P fns) (hm : P.follows .mixedOrders = true) {id : Nat} {ops : Array Oper} {k : List K} {φ : Prop} {n : Nat} (hsz0 : Nat.blt n ops.size = true) (hdep : depOk ops = true) (htl : tailsOk ops n = true) {prs : List (Nat × SV × List (Nat × Res))} (hg : drawX lay fns ops A.rs A.n (takeN n ops.toList) A.sl True = some (prs, φ)) (hfr : freshX prs A = true) (hφ : φ)
    (hn : KW P (.ops ops (dropN n ops.toList) :: k) .normal ⟨A.n, (slotsX prs).reverse ++ A.sl, resOf (fun _ => true) 0 prs ++ A.rs⟩ Q) : KW P (.code (.region id ops true) :: k) .normal A Q := by
  rw [takeN_eq] at hg
  rw [dropN_eq] at hn
  have hsize : n < ops.size := by simpa [Nat.blt, Nat.succ_le_iff] using hsz0
  obtain ⟨_, hlen, hprs⟩ := drawX_spec hg hφ
  have hfx := freshX_ok hfr
  have hrn := stepX_rn hlen hprs
  have dep := depOk_ok hdep
  have hlen' : prs.length = n := by simp only [List.length_take, Array.length_toList] at hlen; omega
  have hstep := tailsOk_ok htl
  have hop : ∀ (i : Nat) op, i < n → ops[i]? = some op → ∃ d y rn ψ, prs[i]? = some (d, y, rn) ∧ op.dst = some d ∧ Nat.blt d A.n = true ∧ stepX lay fns ⟨A.n, pickS (((slotsX prs).take i).reverse ++ A.sl) (looks ops op), A.rs⟩ ops op = some (y, rn, ψ) ∧ ψ :=
    fun i op hin hi => hprs i op (by rw [List.getElem?_take, if_pos hin]; simpa using hi)
  have hslen : (slotsX prs).length = n := by rw [slotsX_length]; exact hlen'
  have hinv : ∀ (j : Nat) d y, (slotsX prs)[j]? = some (d, y) → ∃ op, ops[j]? = some op ∧ op.dst = some d := fun j d y hj => by
    have hltn : j < n := by rw [← hslen]; exact (List.getElem?_eq_some_iff.1 hj).1
    have hlt : j < ops.size := by omega
    obtain ⟨d', y', rn', ψ, g1, g2, _⟩ := hop j ops[j] hltn (Array.getElem?_eq_getElem hlt)
    rw [slotsX_get g1] at hj
    cases hj
    exact ⟨_, Array.getElem?_eq_getElem hlt, g2⟩
  have hpw : (slotsX prs).Pairwise (fun a b => a.1 ≠ b.1) := by
    rw [List.pairwise_iff_getElem]
    intro i j hi hj hij e
    obtain ⟨oi, h1, h2⟩ := hinv i (slotsX prs)[i].1 (slotsX prs)[i].2 (List.getElem?_eq_getElem hi)
    obtain ⟨oj, h3, h4⟩ := hinv j (slotsX prs)[j].1 (slotsX prs)[j].2 (List.getElem?_eq_getElem hj)
    have := dep.dist i j oi oj _ h1 h3 h2 (by rw [h4, e])
    omega
  intro o h tm w hs
  show (Code.region id ops true).wp P (kq P (lift Q o w) k) ⟨tm, []⟩ w
  refine wp_region_any hm ?_
  have main : ∀ (fuel : Nat) (listed : Array Bool) (o' : Nat → Tag) (h' : Nat → Value) (tm' : Array Value) (w' : World), listed.size = ops.size → (∀ j, n ≤ j → listed.getD j false = false) → cntU (fun j => listed.getD j false) n + (ops.size - n) ≤ fuel →
      (∀ (i : Nat) oi, ops[i]? = some oi → listed.getD i false = true → ∀ e ∈ oi.after, Region.binds .any e = true → listed.getD e.on false = true) →
      Sat o' h' ⟨A.n, selL (fun j => listed.getD j false) 0 (slotsX prs) ++ A.sl, resOf (fun j => listed.getD j false) 0 prs ++ A.rs⟩ tm' w' → Ext o w o' w' → wpAny P .any ops (kq P (lift Q o w) k) fuel listed ⟨tm', []⟩ w' := by
    intro fuel
    -- all have come up
    have full : ∀ (listed : Array Bool) (o' : Nat → Tag) (h' : Nat → Value) (tm' : Array Value) (w' : World), (∀ j, j < n → listed.getD j false = true) →
        Sat o' h' ⟨A.n, selL (fun j => listed.getD j false) 0 (slotsX prs) ++ A.sl, resOf (fun j => listed.getD j false) 0 prs ++ A.rs⟩ tm' w' → Ext o w o' w' → kq P (lift Q o w) (.ops ops (ops.toList.drop n) :: k) .normal ⟨tm', []⟩ w' := by
      intro listed o' h' tm' w' hall hs' hx
      refine kq_mono (lift_trans hx) (.ops ops (ops.toList.drop n) :: k) .normal _ w' (hn o' h' tm' w' ?_)
      have hrs : resOf (fun j => listed.getD j false) 0 prs = resOf (fun _ => true) 0 prs := resOf_congr fun j hj => by simpa using hall j (by omega)
      refine ⟨hs'.size, hs'.tags, fun t x hl => hs'.slot t x ?_, fun i r hl => hs'.res i r (by simp only at hl ⊢; rw [hrs]; exact hl)⟩
      simp only at hl ⊢
      by_cases hex : ∃ y, (t, y) ∈ slotsX prs
      · obtain ⟨y, hy⟩ := hex
        have e1 := mem_lk (base := A.sl) (l := (slotsX prs).reverse) (List.pairwise_reverse.2 (hpw.imp fun h => Ne.symm h)) (List.mem_reverse.2 hy)
        rw [e1] at hl
        cases hl
        obtain ⟨j, hj⟩ := List.mem_iff_getElem?.1 hy
        refine mem_lk (hpw.sublist (selL_sub _ _ _)) (selL_mem.2 ⟨j, hj, ?_⟩)
        have : j < n := by rw [← hslen]; exact (List.getElem?_eq_some_iff.1 hj).1
        simpa using hall j this
      · have hno : ∀ y, (t, y) ∉ slotsX prs := fun y hy => hex ⟨y, hy⟩
        rw [nomem_lk fun y hy => hno y (List.mem_reverse.1 hy)] at hl
        rw [nomem_lk fun y hy => hno y ((selL_sub _ _ _).subset hy)]
        exact hl
    have done : ∀ (listed : Array Bool), listed.size = ops.size → Region.ready .any ops listed = [] → ∀ j, j < ops.size → listed.getD j false = true := by
      intro listed hsz hr j
      induction j using Nat.strongRecOn with
      | ind j ih =>
        intro hj
        cases hlj : listed.getD j false with
        | true => rfl
        | false =>
          exfalso
          have : j ∈ Region.ready .any ops listed := by
            rw [mem_ready]
            refine ⟨?_, ops[j], Array.getElem?_eq_getElem hj, fun e he hb => ?_⟩
            · rw [Array.getD_eq_getD_getElem?] at hlj ⊢
              rw [Array.getElem?_eq_getElem (by omega)] at hlj ⊢
              exact hlj
            · have hlt := dep.below j ops[j] (Array.getElem?_eq_getElem hj) e he hb
              exact ih e.on hlt (by omega)
          rw [hr] at this
          cases this
    induction fuel with
    | zero =>
      intro listed o' h' tm' w' hsz hnl hc
      omega
    | succ fuel ih =>
      intro listed o' h' tm' w' hsz hnl hc hcl hs' hx
      refine ⟨fun hr => (by have := done listed hsz hr n (by omega); rw [hnl n (Nat.le_refl n)] at this; cases this), fun i hi => ?_⟩
      by_cases hin : n ≤ i
      · obtain ⟨hun, op, hop', haft⟩ := mem_ready.1 hi
        have hlt : i < ops.size := (Array.getElem?_eq_some_iff.1 hop').1
        have hall : ∀ d j, j < i → i ≤ j + d → listed.getD j false = true := by
          intro d
          induction d with
          | zero => intro j h1 h2; omega
          | succ d ihd =>
            intro j h1 h2
            obtain ⟨q, oq, h3, h3', h4, e, h5, h6, h7⟩ := hstep i hin hlt j h1
            by_cases hqi : q = i
            · subst hqi
              rw [hop'] at h4
              cases h4
              rw [← h7]; exact haft e h5 h6
            · have := ihd q (by omega) (by omega)
              rw [← h7]; exact hcl q oq h4 this e h5 h6
        have hi0 : i = n := by
          rcases Nat.lt_or_ge n i with h | h
          · have := hall i n h (by omega)
            rw [hnl n (Nat.le_refl n)] at this; cases this
          · omega
        subst hi0
        have hf := full listed o' h' tm' w' (fun j hj => hall i j hj (by omega)) hs' hx
        exact (tailSeq hstep dep.below (ops.size - i) i (fuel + 1) listed ⟨tm', []⟩ w' (by omega) (Nat.le_refl _) hsz (fun j hj => hall i j hj (by omega)) hnl (by omega) hf).2 i hi
      obtain ⟨hun, op, hop', haft⟩ := mem_ready.1 hi
      have hlt : i < ops.size := (Array.getElem?_eq_some_iff.1 hop').1
      have hun' : listed.getD i false = false := by
        rw [Array.getD_eq_getD_getElem?, Array.getElem?_eq_getElem (by omega)] at hun ⊢
        exact hun
      obtain ⟨d, y, rn, ψ, g1, g2, g3, g4, g5⟩ := hop i op (by omega) hop'
      have gs := slotsX_get g1
      have hle : St.sub ⟨A.n, pickS (((slotsX prs).take i).reverse ++ A.sl) (looks ops op), A.rs⟩ ⟨A.n, selL (fun j => listed.getD j false) 0 (slotsX prs) ++ A.sl, resOf (fun j => listed.getD j false) 0 prs ++ A.rs⟩ := by
        refine ⟨rfl, fun i r hr => resOf_base hrn (fun j d y rn hj hne => (hfx j d y rn hj hne).2.2) hr, fun t x hl => ?_⟩
        obtain ⟨e1, hm⟩ := pickS_lk hl
        simp only at e1 ⊢
        by_cases hex : ∃ (j : Nat) (y' : SV), (slotsX prs)[j]? = some (t, y')
        · obtain ⟨j, y', hj⟩ := hex
          obtain ⟨oj, hoj, hdj⟩ := hinv j t y' hj
          have huniq : ∀ (j' : Nat) y'', (slotsX prs)[j']? = some (t, y'') → j' = j := fun j' y'' hj' => by
            obtain ⟨oj', hoj', hdj'⟩ := hinv j' t y'' hj'
            exact dep.dist j' j oj' oj t hoj' hoj hdj' hdj
          rcases dep.look i j op oj t hop' hoj hdj hm with ⟨hji, e, he, hb, heq⟩ | ⟨hij, e, he, hb, heq⟩
          · have hlj : listed.getD j false = true := by rw [← heq]; exact haft e he hb
            rw [mem_lk (List.pairwise_reverse.2 ((hpw.sublist (List.take_sublist i (slotsX prs))).imp fun h => Ne.symm h)) (List.mem_reverse.2 (List.mem_of_getElem? (i := j) (by rw [List.getElem?_take, if_pos hji]; exact hj)))] at e1
            cases e1
            exact mem_lk (hpw.sublist (selL_sub _ _ _)) (selL_mem.2 ⟨j, hj, by simpa using hlj⟩)
          · have hlj : listed.getD j false = false := by
              cases hlj : listed.getD j false with
              | false => rfl
              | true =>
                have := hcl j oj hoj hlj e he hb
                rw [heq, hun'] at this
                cases this
            rw [nomem_lk fun y'' hy => ?_] at e1
            · rw [nomem_lk fun y'' hy => ?_]
              · exact e1
              · obtain ⟨j', hj', hl'⟩ := selL_mem.1 hy
                rw [huniq j' y'' hj'] at hl'
                simp [hlj] at hl'
            · obtain ⟨j', hj'⟩ := List.mem_iff_getElem?.1 (List.mem_reverse.1 hy)
              rw [List.getElem?_take] at hj'
              split at hj'
              · have := huniq j' y'' hj'; omega
              · cases hj'
        · have hno : ∀ y, (t, y) ∉ slotsX prs := fun y hy => by
            obtain ⟨j, hj⟩ := List.mem_iff_getElem?.1 hy
            exact hex ⟨j, y, hj⟩
          rw [nomem_lk fun y hy => hno y (List.mem_of_mem_take (List.mem_reverse.1 hy))] at e1
          rw [nomem_lk fun y hy => hno y ((selL_sub _ _ _).subset hy)]
          exact e1
      have hfr' : rn ≠ [] → freshB ⟨A.n, selL (fun j => listed.getD j false) 0 (slotsX prs) ++ A.sl, resOf (fun j => listed.getD j false) 0 prs ++ A.rs⟩ d = true := fun hne => by
        obtain ⟨f1, f2, f3⟩ := hfx i d y rn g1 hne
        refine fresh_super f2 f3 (fun t x hm => ?_) (fun t r hm => ?_)
        · obtain ⟨j, hj, hlj⟩ := selL_mem.1 hm
          obtain ⟨y', rn', hj'⟩ := slotsX_inv hj
          simp only [Nat.zero_add] at hlj
          exact (f1 j _ _ _ hj' (by rintro rfl; rw [hun'] at hlj; cases hlj)).1 |> fun h => by rw [slotsX_get hj'] at hj; cases hj; exact h
        · obtain ⟨j, d', y', rn', hj, hlj, hm'⟩ := resOf_mem hm
          simp only [Nat.zero_add] at hlj
          have := (f1 j d' y' rn' hj (by rintro rfl; rw [hun'] at hlj; cases hlj)).2
          exact freshR_mem this hm'
      refine stepX_wp hl hT hop' hle hs' g2 g3 g4 g5 hfr' fun o2 h2 v w1 hs2 hext => ?_
      have hget : ∀ j, (listed.setIfInBounds i true).getD j false = if j = i then true else listed.getD j false := fun j => by
        by_cases hji : j = i
        · subst hji
          rw [if_pos rfl, Array.getD_eq_getD_getElem?, Array.getElem?_setIfInBounds_self]
          simp [hsz, hlt]
        · rw [if_neg hji, getD_set_ne false (Ne.symm hji)]
      refine ih (listed.setIfInBounds i true) o2 h2 _ w1 (by simp [hsz]) (fun j hj => by rw [hget, if_neg (by omega)]; exact hnl j hj) ?_ ?_ ⟨hs2.size, hs2.tags, fun t x hlk => hs2.slot t x ?_, fun t r hlk => hs2.res t r (resOf_step hrn hpw g1 (by simp [hget]) (fun j hj => by simp [hget, hj]) hlk)⟩ (hx.trans hext)
      · have := cntU_upd (ls := fun j => listed.getD j false) (ls' := fun j => (listed.setIfInBounds i true).getD j false) (i := i) (n := n) (by omega) hun' (by simp [hget]) fun j hj => by simp [hget, hj]
        omega
      · intro j oj hoj hlj e he hb
        rw [hget] at hlj ⊢
        by_cases he' : e.on = i
        · rw [if_pos he']
        · rw [if_neg he']
          by_cases hji : j = i
          · subst hji
            rw [hop'] at hoj
            cases hoj
            exact haft e he hb
          · rw [if_neg hji] at hlj
            exact hcl j oj hoj hlj e he hb
      · simp only at hlk ⊢
        rw [lk_cons]
        by_cases hdt : d = t
        · subst hdt
          rw [if_pos rfl]
          have := mem_lk (base := A.sl) (hpw.sublist (selL_sub (fun j => (listed.setIfInBounds i true).getD j false) 0 (slotsX prs))) (selL_mem.2 ⟨i, gs, by simp [hget]⟩)
          rw [this] at hlk
          exact hlk
        · rw [if_neg hdt]
          by_cases hex : ∃ (j : Nat) (y' : SV), (slotsX prs)[j]? = some (t, y') ∧ (listed.setIfInBounds i true).getD j false = true
          · obtain ⟨j, y', hj, hlj⟩ := hex
            have hji : j ≠ i := by
              rintro rfl
              rw [gs] at hj
              cases hj
              exact hdt rfl
            rw [hget, if_neg hji] at hlj
            have := mem_lk (base := A.sl) (hpw.sublist (selL_sub (fun j => (listed.setIfInBounds i true).getD j false) 0 (slotsX prs))) (selL_mem.2 ⟨j, hj, by simpa [hget, hji] using hlj⟩)
            rw [this] at hlk
            cases hlk
            exact mem_lk (hpw.sublist (selL_sub _ _ _)) (selL_mem.2 ⟨j, hj, by simpa using hlj⟩)
          · rw [nomem_lk fun y' hy => ?_] at hlk
            · rw [nomem_lk fun y' hy => ?_]
              · exact hlk
              · obtain ⟨j, hj, hlj⟩ := selL_mem.1 hy
                refine hex ⟨j, y', hj, ?_⟩
                rw [hget]
                split
                · rfl
                · simpa using hlj
            · obtain ⟨j, hj, hlj⟩ := selL_mem.1 hy
              exact hex ⟨j, y', hj, by simpa using hlj⟩
  refine main ops.size (Array.replicate ops.size false) o h tm w.drew (by simp) (fun j _ => by simp [Array.getD_eq_getD_getElem?, Array.getElem?_replicate]; split <;> rfl) ?_ ?_ ?_ (Ext.drew o w)
  · have : ∀ n, cntU (fun j => (Array.replicate ops.size false).getD j false) n ≤ n := by
      intro n
      induction n with
      | zero => exact Nat.le_refl _
      | succ n ih => simp only [cntU]; split <;> omega
    have := this n
    omega
  · intro i oi hoi hli
    simp [Array.getD_eq_getD_getElem?, Array.getElem?_replicate] at hli
    split at hli <;> cases hli
  · have hs' := hs.drew
    have hr0 : resOf (fun j => (Array.replicate ops.size false).getD j false) 0 prs = [] := resOf_none fun j => by
      simp [Array.getD_eq_getD_getElem?, Array.getElem?_replicate]
      split <;> rfl
    refine ⟨hs'.size, hs'.tags, fun t x hlk => hs'.slot t x ?_, fun i r hlk => hs'.res i r (by simp only at hlk ⊢; rw [hr0] at hlk; exact hlk)⟩
    rw [nomem_lk fun y hy => ?_] at hlk
    · exact hlk
    · obtain ⟨j, hj, hlj⟩ := selL_mem.1 hy
      simp [Array.getD_eq_getD_getElem?, Array.getElem?_replicate] at hlj
      split at hlj <;> cases hlj

/-- as far as such a region, and through it -/
theorem KW.goDX {k k' : List K} {e : Exit} (hl : LayOk P lay) (hT : FnsOk P fns) (hm : P.follows .mixedOrders = true) (f : Nat) {id : Nat} {ops : Array Oper} {φ ψ : Prop} (h : run2 lay fns f k e A True = (.code (.region id ops true) :: k', .normal, A', φ)) (n : Nat) (hsz0 : Nat.blt n ops.size = true) (hdep : depOk ops = true) (htl : tailsOk ops n = true)
    {prs : List (Nat × SV × List (Nat × Res))} (hg : drawX lay fns ops A'.rs A'.n (takeN n ops.toList) A'.sl True = some (prs, ψ)) (hfr : freshX prs A' = true) (hφ : φ) (hψ : ψ) (hn : KW P (.ops ops (dropN n ops.toList) :: k') .normal ⟨A'.n, (slotsX prs).reverse ++ A'.sl, resOf (fun _ => true) 0 prs ++ A'.rs⟩ Q) : KW P k e A Q :=
  KW.go hl hT f h hφ (KW.drawnX hl hT hm hsz0 hdep htl hg hfr hψ hn)
end
end Go.Sy

/-
  SYMBOLIC STATES: a box's cell that holds the nil slice, or an own row.
-/
namespace Go.Sy
section
variable {P : Program} {K0 : List K} {A : St} {Q : Exit → St → Prop} {ex : Exit} {o : Nat → Tag} {h : Nat → Value} {tm : Array Value} {w : World}
/-- the nil slice in a box's cell as an own row of no element -/
theorem Sat.nilB (hs : Sat o h A tm w) {i q d E k T : Nat} {f : Nat → Nat → CV} {cs : List EV} {bk : Option Nat} (hi : lk A.rs i = some (.box T cs bk)) (hq : nth cs q = some (.c (.lit (.slice none 0 0)))) (hf : freshB A d = true) (hid : i ≠ d) :
    Sat o (updH h d (.slice none 0 0)) ⟨A.n, A.sl, (i, .box T (setN cs q (.r d)) bk) :: (d, .own E (.sl 0 k f)) :: A.rs⟩ tm w := by
  have hc : Chg o h w o (updH h d (.slice none 0 0)) w (fun _ => False) A := by
    refine ⟨fun b hb => ⟨hb, rfl⟩, fun j b _ hb => ⟨hb, rfl⟩, fun j hj => ?_⟩
    have : j = d := Classical.byContradiction fun hne => hj (by simp [updH, hne])
    subst this; exact hf
  refine ⟨hs.size, hs.tags, fun s' x' hl' => hc.slot hs s' x' hl', fun j r hl' => ?_⟩
  rw [lk_cons] at hl'
  split at hl'
  · rename_i e
    subst e; cases hl'
    obtain ⟨b, vs, h0, h1, h2, h3, h4, h5⟩ := hc.resOk hs i _ (fun e => e) hi
    refine ⟨b, vs, h0, h1, h2, h3, by rw [setN_eq, List.length_set]; exact h4, fun q' x hx => ?_⟩
    rw [setN_eq, List.getElem?_set] at hx
    split at hx
    · rename_i e
      subst e
      split at hx
      · cases hx
        have hq' : cs[q]? = some (.c (.lit (.slice none 0 0))) := by rw [← nth_eq]; exact hq
        obtain ⟨u, hu, h6, h7⟩ := h5 q _ hq'
        refine ⟨u, hu, h6, ?_⟩
        have : u = .slice none 0 0 := h7.1
        rw [this]; simp [EvOk, updH]
      · cases hx
    · exact h5 q' x hx
  · rw [lk_cons] at hl'
    split at hl'
    · rename_i e
      subst e; cases hl'
      exact ⟨[], by simpa [updH] using World.ownsRow_nil w 0 E k, fun b hb => by simp [updH, Value.ownBlock] at hb, fun e q he => by omega⟩
    · exact hc.resOk hs j r (fun e => e) hl'
theorem KW.nilB (i q d E : Nat) (y : CV) {k' T : Nat} {f : Nat → Nat → CV} {cs : List EV} {bk : Option Nat} (hi : lk A.rs i = some (.box T cs bk)) (hq : nth cs q = some (.c (.lit (.slice none 0 0)))) (hy : y = .sl 0 k' f) (hf : freshB A d = true) (hid : Nat.beq i d = false)
    (hk : KW P K0 ex ⟨A.n, A.sl, (i, .box T (setN cs q (.r d)) bk) :: (d, .own E y) :: A.rs⟩ Q) : KW P K0 ex A Q := by
  subst hy
  exact KW.weaken (fun o h tm w hs => ⟨o, _, hs.nilB hi hq hf (fun e => by subst e; rw [Nat.beq_refl] at hid; cases hid), Ext.refl o w⟩) hk
/-- an own row in a box's cell becomes stable -/
theorem Sat.frzB (hs : Sat o h A tm w) {i j q T E n k : Nat} {f : Nat → Nat → CV} {cs : List EV} {bk : Option Nat} (hi : lk A.rs i = some (.box T cs bk)) (hq : nth cs q = some (.r j)) (hl : lk A.rs j = some (.own E (.sl n k f))) :
    Sat (frzO o j) h ⟨A.n, A.sl, (i, .box T (setN cs q (.c (.sl n k f))) bk) :: (j, .gone) :: A.rs⟩ tm w ∧ Ext o w (frzO o j) w := by
  have hk : Keep o w (frzO o j) w := fun b hb => ⟨by simp [frzO, hb], rfl⟩
  obtain ⟨h1, h2⟩ := hs.frz hl (ss := []) rfl
  have hij : j ≠ i := fun e => by subst e; rw [hl] at hi; cases hi
  have hrep : RepV (frzO o j) w (.sl n k f) (h j) := by
    obtain ⟨vs, hown, htag, hv⟩ := hs.res j _ hl
    rcases hown.2 with ⟨k1, rfl⟩ | ⟨b, cap, cur, k1, k2, k3, k4, k5, k6, k7⟩
    · exact ⟨none, 0, k1, Nat.le_refl _, Nat.zero_le _, .inl rfl⟩
    · refine ⟨_, cap, k1, k4, k5, .inr ⟨b, 0, rfl, by simp [frzO, htag b (by rw [k1]; rfl)], fun e q he hq => ?_⟩⟩
      obtain ⟨u, hu, hx⟩ := hv e q he hq
      have := hown.cells (g := b) (by rw [k1]; rfl) _ _ hu
      rw [addr_add] at this
      exact ⟨u, this, hx.keep hk⟩
  refine ⟨⟨h1.size, h1.tags, h1.slot, fun j' r hl' => ?_⟩, h2⟩
  rw [lk_cons] at hl'
  split at hl'
  · rename_i e
    subst e; cases hl'
    obtain ⟨b, vs, g0, g1, g2, g3, g4, g5⟩ := h1.res i (.box T cs bk) (by rw [lk_cons, if_neg hij]; exact hi)
    refine ⟨b, vs, g0, g1, g2, g3, by rw [setN_eq, List.length_set]; exact g4, fun q' x hx => ?_⟩
    rw [setN_eq, List.getElem?_set] at hx
    split at hx
    · rename_i e
      subst e
      split at hx
      · cases hx
        have hq' : cs[q]? = some (.r j) := by rw [← nth_eq]; exact hq
        obtain ⟨u, hu, h6, h7⟩ := g5 q _ hq'
        refine ⟨u, hu, h6, ?_⟩
        have : u = h j := h7
        subst this; exact hrep
      · cases hx
    · exact g5 q' x hx
  · exact h1.res j' r hl'
theorem KW.frzB (i q j : Nat) {T E n k' : Nat} {f : Nat → Nat → CV} {x : CV} {cs : List EV} {bk : Option Nat} (hi : lk A.rs i = some (.box T cs bk)) (hq : nth cs q = some (.r j)) (hl : lk A.rs j = some (.own E x)) (hx : x = .sl n k' f)
    (hk : KW P K0 ex ⟨A.n, A.sl, (i, .box T (setN cs q (.c x)) bk) :: (j, .gone) :: A.rs⟩ Q) : KW P K0 ex A Q := by
  subst hx
  exact KW.weaken (fun o h tm w hs => ⟨_, _, hs.frzB hi hq hl⟩) hk
end
end Go.Sy
