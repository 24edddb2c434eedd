/-
  SYMBOLIC STATES, PART I: the evaluators of what makes or writes memory of the call's own.
-/
import Derived.Test.YtpjhpcclbenfbaaSyH
set_option linter.unusedVariables false
set_option linter.unusedSimpArgs false
namespace Go.Sy

def ints (xs : List Int) : CV := .sl xs.length 1 (fun e _ => .lit (.int .i64 (xs.getD e 0)))
def bools (xs : List Bool) : CV := .sl xs.length 1 (fun e _ => .lit (.bool (xs.getD e false)))
def nthD {α : Type} (d : α) : List α → Nat → α
  | [], _ => d
  | x :: _, 0 => x
  | _ :: l, n + 1 => nthD d l n
theorem nthD_eq {α : Type} (d : α) : ∀ (l : List α) (n : Nat), nthD d l n = l.getD n d
  | [], _ => by simp [nthD]
  | x :: l, 0 => by simp [nthD]
  | x :: l, n + 1 => by simp [nthD, nthD_eq d l n]
def rowsC (k len : Nat) (cs : List CV) : CV := .sl len k (fun e q => nthD (.lit undef) cs (e * k + q))

def asInts : List CV → Option (List Int)
  | [] => some []
  | .lit (.int .i64 n) :: l => match asInts l with
    | some xs => some (n :: xs)
    | none => none
  | _ => none

theorem asInts_ok : ∀ {l : List CV} {xs : List Int}, asInts l = some xs → l = xs.map fun n => .lit (.int .i64 n)
  | [], xs, ha => by simp [asInts] at ha; subst ha; rfl
  | x :: l, xs, ha => by
    unfold asInts at ha
    split at ha
    · rename_i e; cases e
    · rename_i n l' e
      cases e
      split at ha
      · rename_i ys hy
        simp only [Option.some.injEq] at ha
        subst ha
        rw [asInts_ok hy]; rfl
      · cases ha
    · cases ha

def zE : List Value → List EV
  | [] => []
  | v :: l => .c (.lit v) :: zE l
theorem zE_eq : ∀ l : List Value, zE l = l.map fun v => .c (.lit v)
  | [] => rfl
  | v :: l => by simp [zE, zE_eq l]

def repZ (z : List CV) : Nat → List CV
  | 0 => []
  | n + 1 => z ++ repZ z n
def appN {α : Type} : List α → List α → List α
  | [], l => l
  | x :: k, l => x :: appN k l
theorem appN_eq {α : Type} : ∀ k l : List α, appN k l = k ++ l
  | [], l => rfl
  | x :: k, l => by simp [appN, appN_eq k l]

theorem repZ_length (z : List CV) : ∀ n, (repZ z n).length = n * z.length
  | 0 => by simp [repZ]
  | n + 1 => by simp [repZ, repZ_length z n, Nat.add_mul, Nat.add_comm]
theorem repZ_get (z : List CV) : ∀ n q, q < n * z.length → (repZ z n)[q]? = z[q % z.length]?
  | 0, q, hq => by omega
  | n + 1, q, hq => by
    rw [Nat.add_mul] at hq
    simp only [repZ]
    by_cases h : q < z.length
    · rw [List.getElem?_append_left h, Nat.mod_eq_of_lt h]
    · rw [List.getElem?_append_right (by omega), repZ_get z n _ (by omega), ← Nat.mod_eq_sub_mod (by omega)]

section
variable {P : Program} {lay : Lay} {o o' : Nat → Tag} {h h' : Nat → Value} {A : St} {tm : Array Value} {w w' : World}

theorem zero_init (hl : LayOk P lay) {E : Nat} {z : Value} {zl : List Value} (hz : z.cells.toList = zl) (hone : ∀ b ∈ zl, b.oneCell' = true) (len size : Nat) (hsz : zl.length = size) :
    CellsOk o w ((Array.range (len * size)).map (z.cells[· % z.cells.size]!)) (repZ (zl.map .lit) len) := by
  have hs : z.cells.size = size := by rw [← hsz, ← hz]; simp
  refine ⟨by simp [repZ_length, hsz], fun q x hq => ?_⟩
  have hlt : q < len * size := by
    have := (List.getElem?_eq_some_iff.1 hq).1
    rw [repZ_length, List.length_map, hsz] at this; exact this
  rw [repZ_get _ _ _ (by rw [List.length_map, hsz]; exact hlt), List.length_map, hsz, List.getElem?_map] at hq
  cases hzq : zl[q % size]? with
  | none => simp [hzq] at hq
  | some u =>
    simp [hzq] at hq
    subst hq
    refine ⟨u, ?_, rfl, hone u (List.mem_of_getElem? hzq)⟩
    have hq2 : z.cells[q % size]? = some u := by rw [← hz] at hzq; simpa using hzq
    simp [Array.getElem?_map, Array.getElem?_range, hlt, hs, getElem!_def, hq2]

/-- what an operation that makes or writes memory of the call's own comes to, and what it takes -/
def evE (lay : Lay) (A : St) (op : Oper) : Option (St × Prop) :=
  match op.op, op.dst with
  | .alloc T, some d => match lk lay T, Nat.blt d A.n, freshB A d with
    | some r, true, true => some (⟨A.n, (d, .e (.r d)) :: A.sl, (d, .box T (zE r.zero) none) :: A.rs⟩, True)
    | _, _, _ => none
  | .box T x, some d => match partE A x, Nat.blt d A.n, freshB A d with
    | some (cs, p), true, true => match menEs d cs with
      | false => some (⟨A.n, (d, .e (.r d)) :: A.sl, (d, .box T cs none) :: A.rs⟩, p)
      | true => none
    | _, _, _ => none
  | .buildSlice T len ps, some d => match lk lay T, Nat.blt d A.n, freshB A d with
    | some ⟨_, _, .sl E es _, _⟩, true, true => match lk lay E, Nat.ble (len * es) 16777216 with
      | some rE, true => match fillC A (fun i => some (i * es, es)) (repZ (rE.zero.map .lit) len) ps.toList with
        | some (cs, p) => match Nat.beq es 1, asInts cs with
          | true, some xs => match Nat.beq xs.length len with
            | true => some (⟨A.n, (d, .e (.r d)) :: A.sl, (d, .own E (ints xs)) :: A.rs⟩, p)
            | false => none
          | _, _ => some (⟨A.n, (d, .e (.r d)) :: A.sl, (d, .own E (rowsC es len cs)) :: A.rs⟩, p)
        | none => none
      | _, _ => none
    | _, _, _ => none
  | .makeSlice T ln cp, some d => match lk lay T, Nat.blt d A.n, freshB A d with
    | some ⟨_, _, .sl E es bytes, _⟩, true, true => match lk lay E, litOf A ln, litOf A cp with
      | some rE, some (.int _ l, p), some (.int _ c, q) =>
        some (⟨A.n, (d, .e (.r d)) :: A.sl, (d, .own E (match rE.zero with
          | [.int .i64 0] => ints (List.replicate l.toNat 0)
          | [.bool false] => bools (List.replicate l.toNat false)
          | z => .sl l.toNat es (fun _ q => .lit (nthD undef z q)))) :: A.rs⟩, p ∧ q ∧ 0 ≤ l ∧ l ≤ c ∧ c * bytes ≤ 140737488355328 ∧ c ≤ 140737488355328)
      | _, _, _ => none
    | _, _, _ => none
  | _, _ => none

theorem one_lt {e k n q : Nat} (he : e < n) (hq : q < k) : e * k + q < n * k := by
  have : (e + 1) * k ≤ n * k := Nat.mul_le_mul_right k he
  rw [Nat.add_mul] at this; omega

theorem evE_alloc (hl : LayOk P lay) {op : Oper} {T d : Nat} (ho : op.op = .alloc T) (hd : op.dst = some d) {A' : St} {φ : Prop} (he : evE lay A op = some (A', φ)) : OpStep P op A A' := by
  intro o h tm w hs
  simp only [evE, ho, hd] at he
  split at he
  · rename_i r hT hlt hf
    simp only [Option.some.injEq, Prod.mk.injEq] at he
    obtain ⟨rfl, rfl⟩ := he
    have hlt : d < A.n := by simpa [Nat.blt, Nat.succ_le_iff] using hlt
    obtain ⟨z, hz, hzc, hcells⟩ := zero_cells (o := o) (w := w) hl hT
    have hone := (hl _ _ hT).one
    have hc : CellsE o h w z.cells (zE r.zero) := by
      rw [zE_eq]
      refine ⟨by rw [hcells.1]; simp, fun q x hq => ?_⟩
      rw [List.getElem?_map] at hq
      cases hzq : r.zero[q]? with
      | none => simp [hzq] at hq
      | some u =>
        simp [hzq] at hq
        subst hq
        rw [← hzc] at hzq
        have hu : u ∈ r.zero := by rw [← hzc]; exact List.mem_of_getElem? hzq
        exact ⟨u, by simpa using hzq, hone u hu, rfl, hone u hu⟩
    obtain ⟨o', h', hs', hx⟩ := Sat.newBox hs hlt hf (T := T) hc (by rw [zE_eq]; clear hc hcells hzc hone hT; induction r.zero with
      | nil => rfl
      | cons v l ih => simp [menEs, EV.men, ih])
    refine ⟨_, .pointer (some ⟨w.heap.size, 0, none⟩), _, o', h', ?_, .inl rfl, ?_, hx⟩
    · simp only [execOp, ho]
      exact value_of (by simp [Instr.alloc, hz, newVar, newRow])
    · simpa only [Act.put, hd] using hs'
  · cases he

theorem evE_box (hl : LayOk P lay) {op : Oper} {T d : Nat} {x : Operand} (ho : op.op = .box T x) (hd : op.dst = some d) {A' : St} {φ : Prop} (he : evE lay A op = some (A', φ)) (hφ : φ) : OpStep P op A A' := by
  intro o h tm w hs
  simp only [evE, ho, hd] at he
  split at he
  · rename_i cs p hp hlt hf
    split at he
    · rename_i hm
      simp only [Option.some.injEq, Prod.mk.injEq] at he
      obtain ⟨rfl, rfl⟩ := he
      have hlt : d < A.n := by simpa [Nat.blt, Nat.succ_le_iff] using hlt
      obtain ⟨o', h', hs', hx⟩ := Sat.newBox hs hlt hf (T := T) (partE_ok hs hp hφ) hm
      refine ⟨_, .pointer (some ⟨w.heap.size, 0, none⟩), _, o', h', ?_, .inl rfl, ?_, hx⟩
      · simp only [execOp, ho]
        exact value_of (by simp [Instr.box, newVar, newRow])
      · simpa only [Act.put, hd] using hs'
    · cases he
  · cases he

theorem evE_build (hl : LayOk P lay) {op : Oper} {T len d : Nat} {ps : Array (Nat × Operand)} (ho : op.op = .buildSlice T len ps) (hd : op.dst = some d) {A' : St} {φ : Prop} (he : evE lay A op = some (A', φ)) (hφ : φ) : OpStep P op A A' := by
  intro o h tm w hs
  simp only [evE, ho, hd] at he
  split at he
  · rename_i sz ag E es by' zz hT hlt hf
    split at he
    · rename_i rE hE hble
      split at he
      · rename_i cs p hfill
        have hlt : d < A.n := by simpa [Nat.blt, Nat.succ_le_iff] using hlt
        obtain ⟨hu, hes, i0, hinfo, hisz, _⟩ := sl_elem hl hT
        obtain ⟨iE, zE', hiE, hszE, hzE, hzcE, _, _⟩ := (hl _ _ hE).info
        rw [hinfo] at hiE
        cases hiE
        have hlenE : rE.zero.length = es := by rw [(hl _ _ hE).len, ← hszE, hisz]
        have hp : p := by
          split at he
          · split at he
            · simp only [Option.some.injEq, Prod.mk.injEq] at he; exact he.2 ▸ hφ
            · cases he
          · simp only [Option.some.injEq, Prod.mk.injEq] at he; exact he.2 ▸ hφ
        have hinit := zero_init (o := o) (w := w) (E := E) hl hzcE (hl _ _ hE).one len es hlenE
        obtain ⟨vs', hv', hc'⟩ := fillC_ok hs (place' := fun i => some (i * es, es)) (fun i x hi => hi) hfill hp hinit
        have hle : len * es ≤ 16777216 := by simpa using hble
        have hsize : vs'.size = len * es := by
          have hlen0 := hc'.1
          have key : ∀ (parts : List (Nat × Operand)) (cs0 cs1 : List CV) (p : Prop), fillC A (fun i => some (i * es, es)) cs0 parts = some (cs1, p) → cs1.length = cs0.length := by
            intro parts
            induction parts with
            | nil => intro cs0 cs1 p hf; simp [fillC] at hf; rw [hf.1]
            | cons a parts ih =>
              intro cs0 cs1 p hf
              obtain ⟨i, x⟩ := a
              simp only [fillC] at hf
              split at hf
              · split at hf
                · split at hf
                  · rename_i cs2 q hrec
                    simp only [Option.some.injEq, Prod.mk.injEq] at hf
                    obtain ⟨rfl, _⟩ := hf
                    rw [ih _ _ _ hrec]
                    have hsets : ∀ (xs l : List CV) (n : Nat), (setsN l n xs).length = l.length := by
                      intro xs
                      induction xs with
                      | nil => intro l n; rfl
                      | cons y ys ih2 => intro l n; simp only [setsN]; rw [ih2, setN_eq]; simp
                    exact hsets _ _ _
                  · cases hf
                · cases hf
              · cases hf
          rw [hlen0, key _ _ _ _ hfill, repZ_length, List.length_map, hlenE]
        have hrun : (Instr.buildSlice T len (ps.map fun (i, x) => (i, evl tm x))).run P w = .ok (.slice (some ⟨w.heap.size, 0, none⟩) len len) (w.alloc (.cells vs' E)) := by
          have e0 : (ps.map fun (i, x) => (i, evl tm x)).toList = ps.toList.map fun (i, x) => (i, evl tm x) := by simp
          have e1 : (sizeOf E).run P w = .ok es w := by simp [sizeOf, typeInfo, hinfo, hisz]
          have e2 : (zeroValue E).run P w = .ok zE' w := by simp [zeroValue, typeInfo, hinfo, hzE]
          have e3 : ¬ len * es > 2 ^ 24 := by omega
          by_cases hz : len * es = 0
          · have hv0 : Instr.fill (fun i => some (i * es, es)) ((Array.range (len * es)).map ((#[] : Array Value)[· % (#[] : Array Value).size]!)) (ps.toList.map fun (i, x) => (i, evl tm x)) = some vs' := by
              have hm : ∀ g : Nat → Value, (Array.range 0).map g = #[] := fun g => by simp
              rw [← hv', hz, hm, hm]
            simp only [Instr.buildSlice, Sem.run_bind, run_underlying hu, Result.andThen_ok, e1, if_neg e3, if_pos hz, Sem.run_pure, e0, hv0, newRow, run_newObj]
            rfl
          · simp only [Instr.buildSlice, Sem.run_bind, run_underlying hu, Result.andThen_ok, e1, if_neg e3, if_neg hz, e2, Sem.run_pure, e0, hv', newRow, run_newObj]
            rfl
        have hnm : len ≤ maxLen := by
          have : len ≤ len * es := Nat.le_mul_of_pos_right len (Nat.pos_of_ne_zero hes)
          simp only [maxLen]; omega
        have fin : ∀ x : CV, (∃ f, x = .sl len es f ∧ ∀ e q, e < len → q < es → ∃ u, vs'[e * es + q]? = some u ∧ RepV o w (f e q) u) → A' = ⟨A.n, (d, .e (.r d)) :: A.sl, (d, .own E x) :: A.rs⟩ →
            ∃ x v w' o' h', (execOp (evl tm) op).run P w = .ok x w' ∧ (x = .value v ∨ (x = .skip ∧ v = undef)) ∧ Sat o' h' A' ((⟨tm, []⟩ : Act).put op.dst v).tmps w' ∧ Ext o w o' w' := by
          rintro x ⟨f, rfl, hf'⟩ rfl
          obtain ⟨o', h', hs', hx⟩ := Sat.newRow hs hlt hf (E := E) (Nat.le_refl len) hnm hsize hf'
          refine ⟨_, .slice (some ⟨w.heap.size, 0, none⟩) len len, _, o', h', ?_, .inl rfl, ?_, hx⟩
          · simp only [execOp, ho]
            exact value_of hrun
          · simpa only [Act.put, hd] using hs'
        split at he
        · rename_i xs hes1 ha
          have hes1 := Nat.eq_of_beq_eq_true hes1
          subst hes1
          split at he
          · rename_i hb
            simp only [Option.some.injEq, Prod.mk.injEq] at he
            obtain ⟨rfl, _⟩ := he
            have hb := Nat.eq_of_beq_eq_true hb
            have hcs := asInts_ok ha
            subst hb
            refine fin (ints xs) ⟨_, rfl, fun e q he hq => ?_⟩ rfl
            have hq0 : q = 0 := by omega
            subst hq0
            have : cs[e * 1 + 0]? = some (.lit (.int .i64 (xs.getD e 0))) := by
              rw [hcs, List.getElem?_map]; simp [List.getElem?_eq_getElem he, List.getD]
            exact hc'.2 _ _ this
          · cases he
        · simp only [Option.some.injEq, Prod.mk.injEq] at he
          obtain ⟨rfl, _⟩ := he
          refine fin (rowsC es len cs) ⟨_, rfl, fun e q he hq => ?_⟩ rfl
          have hlt' : e * es + q < cs.length := by rw [← hc'.1, hsize]; exact one_lt he hq
          refine hc'.2 _ _ ?_
          rw [nthD_eq, List.getElem?_eq_getElem hlt']; simp [List.getD, List.getElem?_eq_getElem hlt']
      · cases he
    · cases he
  · cases he

theorem evE_make (hl : LayOk P lay) {op : Oper} {T d : Nat} {ln cp : Operand} (ho : op.op = .makeSlice T ln cp) (hd : op.dst = some d) {A' : St} {φ : Prop} (he : evE lay A op = some (A', φ)) (hφ : φ) : OpStep P op A A' := by
  intro o h tm w hs
  simp only [evE, ho, hd] at he
  split at he
  · rename_i sz ag E es bytes zz hT hlt hf
    split at he
    · rename_i rE k l p k' c q hE hln hcp
      simp only [Option.some.injEq, Prod.mk.injEq] at he
      obtain ⟨rfl, rfl⟩ := he
      obtain ⟨hp, hq, h0, h1, h2, h3⟩ := hφ
      have hlt : d < A.n := by simpa [Nat.blt, Nat.succ_le_iff] using hlt
      obtain ⟨hu, hes, i0, hinfo, hisz, hiby⟩ := sl_elem hl hT
      obtain ⟨iE, zv, hiE, hszE, hzE, hzcE, _, _⟩ := (hl _ _ hE).info
      rw [hinfo] at hiE
      cases hiE
      have hone := (hl _ _ hE).one
      have hlenE : rE.zero.length = es := by rw [(hl _ _ hE).len, ← hszE, hisz]
      have hel : evl tm ln = .int k l := (litOf_ok hs hln hp).1
      have hec : evl tm cp = .int k' c := (litOf_ok hs hcp hq).1
      have hinit := zero_init (o := o) (w := w) (E := E) hl hzcE hone c.toNat es hlenE
      have hsize : ((Array.range (c.toNat * es)).map (zv.cells[· % zv.cells.size]!)).size = c.toNat * es := by simp
      have hget : ∀ e q, e < l.toNat → q < es → ∃ u, ((Array.range (c.toNat * es)).map (zv.cells[· % zv.cells.size]!))[e * es + q]? = some u ∧ rE.zero[q]? = some u ∧ u.oneCell' = true := by
        intro e q he hq
        have hlt2 : e * es + q < c.toNat * es := one_lt (by omega) hq
        obtain ⟨u0, hu0⟩ : ∃ u, rE.zero[q]? = some u := ⟨_, List.getElem?_eq_getElem (by omega)⟩
        have hmod : (e * es + q) % es = q := by rw [Nat.add_comm, Nat.add_mul_mod_self_right]; exact Nat.mod_eq_of_lt hq
        have hx : (repZ (rE.zero.map .lit) c.toNat)[e * es + q]? = some (.lit u0) := by
          rw [repZ_get _ _ _ (by rw [List.length_map, hlenE]; exact hlt2), List.length_map, hlenE, hmod, List.getElem?_map, hu0]; rfl
        obtain ⟨u, hu, hr⟩ := hinit.2 _ _ hx
        obtain ⟨rfl, hr2⟩ := hr
        exact ⟨_, hu, hu0, hr2⟩
      have hrun : (Instr.makeSlice T (evl tm ln) (evl tm cp)).run P w = .ok (.slice (some ⟨w.heap.size, 0, none⟩) l.toNat c.toNat) (w.alloc (.cells ((Array.range (c.toNat * es)).map (zv.cells[· % zv.cells.size]!)) E)) := by
        have e1 : (sizeOf E).run P w = .ok es w := by simp [sizeOf, typeInfo, hinfo, hisz]
        have e2 : (zeroValue E).run P w = .ok zv w := by simp [zeroValue, typeInfo, hinfo, hzE]
        have e3 : (typeInfo E).run P w = .ok i0 w := by simp [typeInfo, hinfo]
        have w1 : IntKind.i64.wrap l = l := IntWalk.i64_in l (by omega)
        have w2 : IntKind.i64.wrap c = c := IntWalk.i64_in c (by omega)
        have e4 : (asInt (evl tm ln)).run P w = .ok l w := by rw [hel]; rfl
        have e5 : (asInt (evl tm cp)).run P w = .ok c w := by rw [hec]; rfl
        have t1 : (decide (c < 0) || decide ((i0.bytes : Int) * c > 2 ^ 48)) = false := by
          have : (i0.bytes : Int) * c ≤ 140737488355328 := by rw [hiby, Int.mul_comm]; exact h2
          simp; omega
        have t2 : (decide (l < 0)) = false := by simp; omega
        have t3 : (decide (l > c)) = false := by simp; omega
        by_cases hz : c.toNat * es = 0
        · simp only [Instr.makeSlice, Sem.run_bind, run_underlying hu, Result.andThen_ok, e1, e3, e4, e5, w1, w2, t1, t2, t3, Bool.or_self, Bool.false_eq_true, if_false, run_askRoom, if_pos hz, Sem.run_pure, newRow, run_newObj]
          have hm : ∀ g : Nat → Value, (Array.range 0).map g = #[] := fun g => by simp
          rw [hz, hm, hm]
          rfl
        · simp only [Instr.makeSlice, Sem.run_bind, run_underlying hu, Result.andThen_ok, e1, e2, e3, e4, e5, w1, w2, t1, t2, t3, Bool.or_self, Bool.false_eq_true, if_false, run_askRoom, if_neg hz, Sem.run_pure, newRow, run_newObj]
          rfl
      have hnm : c.toNat ≤ maxLen := by simp only [maxLen]; omega
      have fin : ∀ x : CV, (∃ f, x = .sl l.toNat es f ∧ ∀ e q, e < l.toNat → q < es → ∃ u, rE.zero[q]? = some u ∧ f e q = .lit u) →
          ∃ x' v w' o' h', (execOp (evl tm) op).run P w = .ok x' w' ∧ (x' = .value v ∨ (x' = .skip ∧ v = undef)) ∧ Sat o' h' ⟨A.n, (d, .e (.r d)) :: A.sl, (d, .own E x) :: A.rs⟩ ((⟨tm, []⟩ : Act).put op.dst v).tmps w' ∧ Ext o w o' w' := by
        rintro x ⟨f, rfl, hf'⟩
        obtain ⟨o', h', hs', hx⟩ := Sat.newRow hs hlt hf (E := E) (f := f) (show l.toNat ≤ c.toNat by omega) hnm hsize (fun e q he hq => by
          obtain ⟨u, hu1, hu2, hu3⟩ := hget e q he hq
          obtain ⟨u', hu', hfe⟩ := hf' e q he hq
          rw [hu2] at hu'
          cases hu'
          exact ⟨u, hu1, by rw [hfe]; exact ⟨rfl, hu3⟩⟩)
        refine ⟨_, .slice (some ⟨w.heap.size, 0, none⟩) l.toNat c.toNat, _, o', h', ?_, .inl rfl, ?_, hx⟩
        · simp only [execOp, ho]
          exact value_of hrun
        · simpa only [Act.put, hd] using hs'
      split
      · rename_i hz
        have : es = 1 := by rw [← hlenE, hz]; rfl
        subst this
        refine fin (ints (List.replicate l.toNat 0)) ⟨fun _ _ => .lit (.int .i64 0), ?_, fun e q he hq => ?_⟩
        · simp only [ints, List.length_replicate]
          congr 1
          funext e _
          simp [List.getD, List.getElem?_replicate]
          split <;> rfl
        · have : q = 0 := by omega
          subst this; exact ⟨_, by rw [hz]; rfl, rfl⟩
      · rename_i hz
        have : es = 1 := by rw [← hlenE, hz]; rfl
        subst this
        refine fin (bools (List.replicate l.toNat false)) ⟨fun _ _ => .lit (.bool false), ?_, fun e q he hq => ?_⟩
        · simp only [bools, List.length_replicate]
          congr 1
          funext e _
          simp [List.getD, List.getElem?_replicate]
          split <;> rfl
        · have : q = 0 := by omega
          subst this; exact ⟨_, by rw [hz]; rfl, rfl⟩
      · refine fin _ ⟨_, rfl, fun e q he hq => ⟨rE.zero[q]'(by omega), List.getElem?_eq_getElem (by omega), ?_⟩⟩
        rw [nthD_eq, List.getD, List.getElem?_eq_getElem (by omega)]; rfl
    · cases he
  · cases he
end

end Go.Sy
