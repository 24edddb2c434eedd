/-
  SyF, SyG, SyH, SyI, SyJ, one text.
-/
import Derived.Test.YtdeoicedbphgoaaGreatDoorSyA
import Derived.Laws.AppendOwnNone
import Derived.MapKept
set_option linter.unusedSectionVars false
set_option linter.unusedVariables false
set_option linter.unusedSimpArgs false
/-
  SYMBOLIC STATES, PART F: parts of values, slices, built values; one evaluator for all operations that only compute ('evP').
-/
namespace Go.Sy

def dropN {α : Type} : Nat → List α → List α
  | 0, l => l
  | _ + 1, [] => []
  | n + 1, _ :: l => dropN n l
def takeN {α : Type} : Nat → List α → List α
  | 0, _ => []
  | _ + 1, [] => []
  | n + 1, x :: l => x :: takeN n l
theorem dropN_eq {α : Type} : ∀ (n : Nat) (l : List α), dropN n l = l.drop n
  | 0, l => rfl
  | n + 1, [] => rfl
  | n + 1, x :: l => by simp [dropN, dropN_eq n l]
theorem takeN_eq {α : Type} : ∀ (n : Nat) (l : List α), takeN n l = l.take n
  | 0, l => rfl
  | n + 1, [] => rfl
  | n + 1, x :: l => by simp [takeN, takeN_eq n l]

section
variable {P : Program} {lay : Lay} {o : Nat → Tag} {h : Nat → Value} {A : St} {tm : Array Value} {w : World}

/-! a field of a value -/
def evField (lay : Lay) (A : St) (T : TypeId) (x : Operand) (j : Nat) : Option (SV × Prop) :=
  match lk lay T with
  | some ⟨_, _, .st fs _, _⟩ => match nth fs j, rd A x with
    | some ⟨off, _, false⟩, some (.ag cs, p) => match nth cs off with
      | some c => some (.e (.c c), p)
      | none => none
    | some ⟨off, s, true⟩, some (.ag cs, p) => some (.e (.ag (takeN s (dropN off cs))), p)
    | _, _ => none
  | _ => none

theorem aggB_run {t : Nat} {i : TypeInfo} (hi : P.info? t = some i) (hu : ∃ d, P.underlying t = some d) : (isAgg t).run P w = .ok (aggB P t) w := by
  obtain ⟨d, hd⟩ := hu
  unfold aggB
  cases d <;> simp [isAgg, run_underlying hd, hd]

theorem evField_ok (hl : LayOk P lay) (hs : Sat o h A tm w) {T : TypeId} {x : Operand} {j : Nat} {sv : SV} {φ : Prop}
    (he : evField lay A T x j = some (sv, φ)) (hφ : φ) : Gives P o h tm w (Instr.field T (evl tm x) j) sv := by
  unfold evField at he
  split at he
  · rename_i sz ag fs qi z hT
    split at he
    · rename_i off s2 cs p hj hx
      split at he
      · rename_i c hn
        simp only [Option.some.injEq, Prod.mk.injEq] at he
        obtain ⟨rfl, rfl⟩ := he
        obtain ⟨gs, g, i, hu, hg, ho, hi, hsz, hne, ha, hund⟩ := st_field hl hT hj
        obtain ⟨vs, hv, hvs, hc⟩ := rd_ok hs hx hφ
        rw [nth_eq] at hn
        obtain ⟨u, hu', hr⟩ := hc off c hn
        rw [hv]
        have hagg := aggB_run (w := w) hi hund
        simp only at ho ha
        exact ⟨u, by simp [Instr.field, run_underlying hu, hg, asAgg, part, hagg, ← ha, ho, hu'], hr⟩
      · cases he
    · rename_i off s2 cs p hj hx
      simp only [Option.some.injEq, Prod.mk.injEq] at he
      obtain ⟨rfl, rfl⟩ := he
      obtain ⟨gs, g, i, hu, hg, ho, hi, hsz, hne, ha, hund⟩ := st_field hl hT hj
      obtain ⟨vs, hv, hvs, hc⟩ := rd_ok hs hx hφ
      rw [hv]
      have hagg := aggB_run (w := w) hi hund
      simp only at ho ha hsz
      refine ⟨.agg (vs.extract off (off + s2)), by simp [Instr.field, run_underlying hu, hg, asAgg, part, hagg, ← ha, ho, sizeOf, typeInfo, hi, hsz], _, rfl, ?_, ?_⟩
      · simp [takeN_eq, dropN_eq, hvs]; omega
      · intro q x hq
        rw [takeN_eq, dropN_eq, List.getElem?_take] at hq
        split at hq
        · rename_i hlt
          rw [List.getElem?_drop] at hq
          obtain ⟨u, hu', hr⟩ := hc _ _ hq
          refine ⟨u, ?_, hr⟩
          rw [Array.getElem?_extract]
          have : q < min (off + s2) vs.size - off := by
            have := (Array.getElem?_eq_some_iff.1 hu').1
            omega
          simp [this, hu']
        · cases hq
    · cases he
  · cases he

/-! a byte of a string -/
def evIndex (lay : Lay) (A : St) (T : TypeId) (x ix : Operand) : Option (SV × Prop) :=
  match lk lay T, litOf A x, litOf A ix with
  | some ⟨_, _, .str, _⟩, some (.string s, p), some (.int _ z, q) => some (.e (.c (.lit (.int .u8 ((s.data.getD z.toNat 0).toNat : Int)))), p ∧ q ∧ 0 ≤ z ∧ z < (s.size : Int))
  | _, _, _ => none

theorem evIndex_ok (hl : LayOk P lay) (hs : Sat o h A tm w) {T : TypeId} {x ix : Operand} {sv : SV} {φ : Prop} (he : evIndex lay A T x ix = some (sv, φ)) (hφ : φ) :
    Gives P o h tm w (Instr.index T (evl tm x) (evl tm ix)) sv := by
  unfold evIndex at he
  split at he
  · rename_i sz ag zz s p k z q hT hx hi
    simp only [Option.some.injEq, Prod.mk.injEq] at he
    obtain ⟨rfl, rfl⟩ := he
    obtain ⟨hp, hq, h0, h1⟩ := hφ
    rw [(litOf_ok hs hx hp).1, (litOf_ok hs hi hq).1]
    obtain ⟨d, hd, ht⟩ := (hl _ _ hT).td
    simp only [tdB, Bool.and_eq_true] at ht
    cases d <;> simp at ht
    have hlt : z.toNat < s.size := by omega
    have hlt' : z.toNat < s.data.size := hlt
    have e1 : s[z.toNat]? = some s[z.toNat] := getElem?_pos s _ hlt
    refine ⟨_, ?_, rfl, rfl⟩
    simp [Instr.index, asIntOf, run_underlying hd, h0, e1]
    have : s.data[z.toNat]?.getD 0 = s[z.toNat] := by
      rw [Array.getElem?_eq_getElem hlt']; rfl
    rw [this]
  · cases he

/-! slices of strings and of slices -/
def bnd (A : St) (d : Int) : Option Operand → Option (Int × Prop)
  | none => some (d, True)
  | some x => match litOf A x with
    | some (.int _ z, p) => some (z, p)
    | _ => none

def evSlice (lay : Lay) (A : St) (T : TypeId) (x : Operand) (lo hi mx : Option Operand) : Option (SV × Prop) :=
  match mx, lk lay T, rd A x with
  | none, some ⟨_, _, .str, _⟩, some (.c (.lit (.string s)), p) => match bnd A 0 lo, bnd A s.size hi with
    | some (l, pl), some (g, pg) => some (.e (.c (.lit (.string (s.extract l.toNat g.toNat)))), p ∧ pl ∧ pg ∧ 0 ≤ l ∧ l ≤ g ∧ g ≤ (s.size : Int))
    | _, _ => none
  | none, some ⟨_, _, .sl _ es _, _⟩, some (.c (.sl n k f), p) => match Nat.beq k es, bnd A 0 lo, bnd A n hi with
    | true, some (l, pl), some (g, pg) => some (.e (.c (.sl (g.toNat - l.toNat) k (fun e q => f (e + l.toNat) q))), p ∧ pl ∧ pg ∧ 0 ≤ l ∧ l ≤ g ∧ g ≤ n)
    | _, _, _ => none
  | _, _, _ => none

theorem bnd_ok (hs : Sat o h A tm w) {d : Int} {x : Option Operand} {z : Int} {p : Prop} (hb : bnd A d x = some (z, p)) (hp : p) :
    (x = none ∧ z = d) ∨ ∃ y k, x = some y ∧ evl tm y = .int k z := by
  cases x with
  | none => simp [bnd] at hb; exact .inl ⟨rfl, hb.1.symm⟩
  | some y =>
    simp only [bnd] at hb
    split at hb
    · rename_i k z' p' hl
      simp only [Option.some.injEq, Prod.mk.injEq] at hb
      obtain ⟨rfl, rfl⟩ := hb
      exact .inr ⟨y, k, rfl, (litOf_ok hs hl hp).1⟩
    · cases hb

theorem run_sliceBounds (hs : Sat o h A tm w) (isS : Bool) {len cap : Nat} {lo hi : Option Operand} {l g : Int} {pl pg : Prop} (hbl : bnd A 0 lo = some (l, pl)) (hbg : bnd A len hi = some (g, pg)) (hpl : pl) (hpg : pg)
    (h0 : 0 ≤ l) (h1 : l ≤ g) (h2 : g ≤ cap) : (Instr.sliceBounds isS len cap (lo.map (evl tm)) (hi.map (evl tm)) none).run P w = .ok (l.toNat, g.toNat, cap) w := by
  rcases bnd_ok hs hbl hpl with ⟨rfl, rfl⟩ | ⟨y, k, rfl, hy⟩ <;> rcases bnd_ok hs hbg hpg with ⟨rfl, rfl⟩ | ⟨y', k', rfl, hy'⟩
  · simp [Instr.sliceBounds]
  · simp [Instr.sliceBounds, hy', Instr.sliceBound, asIntOf, show 0 ≤ g by omega, h2]
  · simp [Instr.sliceBounds, hy, Instr.sliceBound, asIntOf, h0, h1]
  · simp [Instr.sliceBounds, hy, hy', Instr.sliceBound, asIntOf, h0, h1, show 0 ≤ g by omega, h2, show max g 0 = g by omega, show ¬ g < l by omega]

theorem evSlice_ok (hl : LayOk P lay) (hs : Sat o h A tm w) {T : TypeId} {x : Operand} {lo hi mx : Option Operand} {sv : SV} {φ : Prop} (he : evSlice lay A T x lo hi mx = some (sv, φ)) (hφ : φ) :
    Gives P o h tm w (Instr.sliceAt T (evl tm x) (lo.map (evl tm)) (hi.map (evl tm)) (mx.map (evl tm))) sv := by
  unfold evSlice at he
  split at he
  · rename_i sz ag zz s p hT hx
    split at he
    · rename_i l pl g pg hbl hbg
      simp only [Option.some.injEq, Prod.mk.injEq] at he
      obtain ⟨rfl, rfl⟩ := he
      obtain ⟨hp, hpl, hpg, h0, h1, h2⟩ := hφ
      obtain ⟨d, hd, ht⟩ := (hl _ _ hT).td
      simp only [tdB, Bool.and_eq_true] at ht
      cases d <;> simp at ht
      have hv : evl tm x = .string s := (rd_ok hs hx hp).1
      rw [hv]
      have hb := run_sliceBounds (P := P) hs false hbl hbg hpl hpg h0 h1 h2
      exact ⟨_, by simp [Instr.sliceAt, Instr.slice, run_underlying hd, hb], rfl, rfl⟩
    · cases he
  · rename_i sz ag E es by' zz n k f p hT hx
    split at he
    · rename_i l pl g pg hk hbl hbg
      have hk := Nat.eq_of_beq_eq_true hk
      subst hk
      simp only [Option.some.injEq, Prod.mk.injEq] at he
      obtain ⟨rfl, rfl⟩ := he
      obtain ⟨hp, hpl, hpg, h0, h1, h2⟩ := hφ
      obtain ⟨hu, hes, i0, hinfo, hsz, _⟩ := sl_elem hl hT
      obtain ⟨a, cap, hv, hnc, hcm, hrow⟩ := rd_ok hs hx hp
      rw [hv]
      have hb := run_sliceBounds (P := P) (cap := cap) hs true hbl hbg hpl hpg h0 h1 (by omega)
      refine ⟨_, by simp [Instr.sliceAt, Instr.slice, run_underlying hu, hb, sizeOf, typeInfo, hinfo]; rfl, ?_⟩
      refine ⟨_, _, rfl, by omega, by omega, ?_⟩
      by_cases hz : g.toNat - l.toNat = 0
      · exact .inl hz
      · rcases hrow with hn | ⟨b, off, rfl, htag, hr⟩
        · omega
        · right
          have hne : ¬ cap = l.toNat := by omega
          refine ⟨b, off + l.toNat * k, ?_, htag, fun e q he hq => ?_⟩
          · simp [hne, addr_add, hsz]
          · obtain ⟨u, hu', hx'⟩ := hr (e + l.toNat) q (by omega) hq
            refine ⟨u, ?_, hx'⟩
            rw [← hu']
            congr 2
            rw [Nat.add_mul]
            omega
    · cases he
  · cases he

/-! built values -/
def CellsOk (o : Nat → Tag) (w : World) (vs : Array Value) (cs : List CV) : Prop := vs.size = cs.length ∧ ∀ (q : Nat) x, cs[q]? = some x → ∃ u, vs[q]? = some u ∧ RepV o w x u

def setN {α : Type} : List α → Nat → α → List α
  | [], _, _ => []
  | _ :: l, 0, x => x :: l
  | y :: l, n + 1, x => y :: setN l n x
theorem setN_eq {α : Type} : ∀ (l : List α) (n : Nat) (x : α), setN l n x = l.set n x
  | [], _, _ => rfl
  | _ :: _, 0, _ => rfl
  | y :: l, n + 1, x => by simp [setN, setN_eq l n x]
def setsN {α : Type} : List α → Nat → List α → List α
  | l, _, [] => l
  | l, n, x :: xs => setsN (setN l n x) (n + 1) xs

theorem CellsOk.set {vs : Array Value} {cs : List CV} (hc : CellsOk o w vs cs) {n : Nat} {u : Value} {x : CV} (hx : RepV o w x u) : CellsOk o w (vs.setIfInBounds n u) (setN cs n x) := by
  rw [setN_eq]
  refine ⟨by simp [hc.1], fun q y hq => ?_⟩
  rw [List.getElem?_set] at hq
  split at hq
  · rename_i e
    subst e
    split at hq
    · rename_i hlt
      cases hq
      exact ⟨u, by rw [Array.getElem?_setIfInBounds_self]; simp [hc.1, hlt], hx⟩
    · cases hq
  · rename_i hne
    obtain ⟨u', hu', hr⟩ := hc.2 q y hq
    exact ⟨u', by rw [Array.getElem?_setIfInBounds_ne hne]; exact hu', hr⟩

theorem CellsOk.sets : ∀ (us : List Value) (xs : List CV) {vs : Array Value} {cs : List CV} (n off : Nat), us.length = xs.length → (∀ (q : Nat) x, xs[q]? = some x → ∃ u, us[q]? = some u ∧ RepV o w x u) → CellsOk o w vs cs →
    CellsOk o w ((us.zipIdx n).foldl (fun cs (c, j) => cs.setIfInBounds (off + j) c) vs) (setsN cs (off + n) xs)
  | [], [], vs, cs, n, off, _, _, hc => hc
  | u :: us, x :: xs, vs, cs, n, off, hlen, hx, hc => by
    simp only [List.zipIdx_cons, List.foldl_cons, setsN]
    obtain ⟨u', hu', hr⟩ := hx 0 x rfl
    simp at hu'
    subst hu'
    exact CellsOk.sets us xs (n + 1) off (by simpa using hlen) (fun q y hq => by simpa using hx (q + 1) y (by simpa using hq)) (hc.set hr)
  | [], _ :: _, _, _, _, _, hlen, _, _ => by simp at hlen
  | _ :: _, [], _, _, _, _, hlen, _, _ => by simp at hlen

/-- the parts of a literal: where each goes, and its cells -/
def partC (A : St) (x : Operand) : Option (List CV × Prop) :=
  match rd A x with
  | some (.c y, p) => some ([y], p)
  | some (.ag cs, p) => some (cs, p)
  | _ => none

theorem partC_ok (hs : Sat o h A tm w) {x : Operand} {xs : List CV} {p : Prop} (hp : partC A x = some (xs, p)) (hφ : p) :
    (evl tm x).cells.size = xs.length ∧ ∀ (q : Nat) y, xs[q]? = some y → ∃ u, (evl tm x).cells[q]? = some u ∧ RepV o w y u := by
  unfold partC at hp
  split at hp
  · rename_i y p' hr
    simp only [Option.some.injEq, Prod.mk.injEq] at hp
    obtain ⟨rfl, rfl⟩ := hp
    have hv : RepV o w y (evl tm x) := rd_ok hs hr hφ
    have h1 := hv.one
    have hc : (evl tm x).cells = #[evl tm x] := by
      generalize evl tm x = v at h1
      cases v <;> first | rfl | simp [Value.oneCell'] at h1
    rw [hc]
    refine ⟨rfl, fun q y' hq => ?_⟩
    cases q with
    | zero => simp at hq; subst hq; exact ⟨_, rfl, hv⟩
    | succ q => simp at hq
  · rename_i cs p' hr
    simp only [Option.some.injEq, Prod.mk.injEq] at hp
    obtain ⟨rfl, rfl⟩ := hp
    obtain ⟨vs, hv, h1, h2⟩ := rd_ok hs hr hφ
    rw [hv]
    exact ⟨h1, h2⟩
  · cases hp

def fillC (A : St) (place : Nat → Option (Nat × Nat)) : List CV → List (Nat × Operand) → Option (List CV × Prop)
  | cs, [] => some (cs, True)
  | cs, (i, x) :: rest => match place i, partC A x with
    | some (off, s), some (xs, p) => match Nat.beq xs.length s, Nat.ble (off + xs.length) cs.length with
      | true, true => match fillC A place (setsN cs off xs) rest with
        | some (cs', q) => some (cs', p ∧ q)
        | none => none
      | _, _ => none
    | _, _ => none

theorem fill_cons {place : Nat → Option (Nat × Nat)} {vs : Array Value} {i off s : Nat} {v : Value} (hp : place i = some (off, s)) (h1 : v.cells.size = s) (h2 : off + v.cells.size ≤ vs.size) (rest : List (Nat × Value)) :
    Instr.fill place vs ((i, v) :: rest) = Instr.fill place ((v.cells.toList.zipIdx).foldl (fun cs (c, j) => cs.setIfInBounds (off + j) c) vs) rest := by
  simp only [Instr.fill, hp]
  rw [if_neg (by simp [h1]; omega)]
  congr 1
  rw [← Array.foldl_toList]
  simp

theorem fillC_ok (hs : Sat o h A tm w) {place place' : Nat → Option (Nat × Nat)} (hpl : ∀ i x, place i = some x → place' i = some x) : ∀ {parts : List (Nat × Operand)} {cs cs' : List CV} {vs : Array Value} {φ : Prop},
    fillC A place cs parts = some (cs', φ) → φ → CellsOk o w vs cs →
    ∃ vs', Instr.fill place' vs (parts.map fun (i, x) => (i, evl tm x)) = some vs' ∧ CellsOk o w vs' cs'
  | [], cs, cs', vs, φ, hf, _, hc => by
    simp only [fillC, Option.some.injEq, Prod.mk.injEq] at hf
    obtain ⟨rfl, rfl⟩ := hf
    exact ⟨vs, rfl, hc⟩
  | (i, x) :: rest, cs, cs', vs, φ, hf, hφ, hc => by
    simp only [fillC] at hf
    split at hf
    · rename_i off s xs p hpi hpx
      split at hf
      · rename_i hb1 hb2
        split at hf
        · rename_i cs2 q hrec
          simp only [Option.some.injEq, Prod.mk.injEq] at hf
          obtain ⟨rfl, rfl⟩ := hf
          obtain ⟨h1, h2⟩ := partC_ok hs hpx hφ.1
          have hb1 := Nat.eq_of_beq_eq_true hb1
          have hb2 : off + xs.length ≤ cs.length := by simpa using hb2
          have hstep := CellsOk.sets (evl tm x).cells.toList xs 0 off (by simpa using h1) (fun q y hq => by
            obtain ⟨u, hu, hr⟩ := h2 q y hq
            exact ⟨u, by simpa using hu, hr⟩) hc
          rw [Nat.add_zero] at hstep
          obtain ⟨vs', hv', hc'⟩ := fillC_ok hs hpl hrec hφ.2 hstep
          refine ⟨vs', ?_, hc'⟩
          rw [← hv']
          exact fill_cons (hpl _ _ hpi) (by rw [h1, hb1]) (by rw [hc.1, h1]; exact hb2) _
        · cases hf
      · cases hf
    · cases hf

def evBuild (lay : Lay) (A : St) (T : TypeId) (parts : Array (Nat × Operand)) : Option (SV × Prop) :=
  match lk lay T with
  | some ⟨_, _, .st fs _, z⟩ => match fillC A (fun i => match nth fs i with | some ⟨off, s, _⟩ => some (off, s) | none => none) (z.map .lit) parts.toList with
    | some (cs, p) => some (.e (.ag cs), p)
    | none => none
  | some ⟨_, _, .arr _ es _, z⟩ => match fillC A (fun i => some (i * es, es)) (z.map .lit) parts.toList with
    | some (cs, p) => some (.e (.ag cs), p)
    | none => none
  | _ => none

theorem zero_cells (hl : LayOk P lay) {T : Nat} {r : TRow} (hT : lk lay T = some r) : ∃ z, (zeroValue T).run P w = .ok z w ∧ z.cells.toList = r.zero ∧ CellsOk o w z.cells (r.zero.map .lit) := by
  obtain ⟨i, z, hi, hsz, hz, hzc, _, _⟩ := (hl _ _ hT).info
  have hone := (hl _ _ hT).one
  refine ⟨z, by simp [zeroValue, typeInfo, hi, hz], hzc, by rw [List.length_map, ← hzc]; simp, fun q x hq => ?_⟩
  rw [List.getElem?_map] at hq
  cases hzq : r.zero[q]? with
  | none => simp [hzq] at hq
  | some u =>
    simp [hzq] at hq
    subst hq
    refine ⟨u, ?_, rfl, hone u (List.mem_of_getElem? hzq)⟩
    rw [← hzc] at hzq
    simpa using hzq

theorem run_mapM_fields (gs : List Field) (f : Field → Nat × Nat) (hf : ∀ g ∈ gs, (do pure (g.offset, ← sizeOf g.type) : Sem (Nat × Nat)).run P w = .ok (f g) w) :
    (gs.mapM fun g => (do pure (g.offset, ← sizeOf g.type) : Sem (Nat × Nat))).run P w = .ok (gs.map f) w := by
  induction gs with
  | nil => rfl
  | cons g gs ih =>
    have h1 := hf g (by simp)
    have h2 := ih (fun g' hg => hf g' (by simp [hg]))
    simp only [List.mapM_cons, Sem.run_bind, h1, h2, Result.andThen_ok, Sem.run_pure, List.map_cons]

theorem st_fields (hl : LayOk P lay) {T sz : Nat} {ag : Bool} {z : List Value} {fs : List Fld} {qi : Bool} (hT : lk lay T = some ⟨sz, ag, .st fs qi, z⟩) :
    ∃ gs, P.underlying T = some (.struct gs) ∧ fldsB P gs.toList fs = true := by
  obtain ⟨d, hd, ht⟩ := (hl _ _ hT).td
  simp only [tdB, Bool.and_eq_true] at ht
  cases d <;> simp at ht
  exact ⟨_, hd, ht.2⟩

theorem fldsB_all : ∀ {gs : List Field} {fs : List Fld}, fldsB P gs fs = true → ∀ (j : Nat) (g : Field), gs[j]? = some g → ∃ f, fs[j]? = some f ∧ fldB P g f = true
  | [], [], _, _, _, h' => by simp at h'
  | g :: gs, f :: fs, hb, 0, g', h' => by
    simp only [fldsB, Bool.and_eq_true] at hb
    simp at h'; subst h'; exact ⟨f, rfl, hb.1⟩
  | g :: gs, f :: fs, hb, j + 1, g', h' => by
    simp only [fldsB, Bool.and_eq_true] at hb
    simpa using fldsB_all hb.2 j g' (by simpa using h')
  | [], _ :: _, hb, _, _, _ => by simp [fldsB] at hb
  | _ :: _, [], hb, _, _, _ => by simp [fldsB] at hb

theorem fldB_size {g : Field} {f : Fld} (hb : fldB P g f = true) : g.offset = f.off ∧ (sizeOf g.type).run P w = .ok f.size w := by
  simp only [fldB, Bool.and_eq_true, beq_iff_eq, bne_iff_ne, ne_eq] at hb
  obtain ⟨⟨⟨h1, h2⟩, h3⟩, h4⟩ := hb
  refine ⟨h1, ?_⟩
  cases hi : P.info? g.type with
  | none => simp [hi] at h2
  | some i => simp [hi] at h2; simp [sizeOf, typeInfo, hi, h2.1]

theorem evBuild_ok (hl : LayOk P lay) (hs : Sat o h A tm w) {T : TypeId} {parts : Array (Nat × Operand)} {sv : SV} {φ : Prop} (he : evBuild lay A T parts = some (sv, φ)) (hφ : φ) :
    Gives P o h tm w (Instr.build T (parts.map fun (i, x) => (i, evl tm x))) sv := by
  unfold evBuild at he
  split at he
  · rename_i sz ag fs qi z hT
    split at he
    · rename_i cs p hf
      simp only [Option.some.injEq, Prod.mk.injEq] at he
      obtain ⟨rfl, rfl⟩ := he
      obtain ⟨z', hz, hzc, hcells⟩ := zero_cells (o := o) (w := w) hl hT
      obtain ⟨gs, hu, hfl⟩ := st_fields hl hT
      have hM : (gs.mapM fun g => (do pure (g.offset, ← sizeOf g.type) : Sem (Nat × Nat))).run P w = .ok ((gs.toList.map fun g => (g.offset, ((P.info? g.type).map (·.size)).getD 0)).toArray) w := by
        have h1 := run_mapM_fields (P := P) (w := w) gs.toList (fun g => (g.offset, ((P.info? g.type).map (·.size)).getD 0)) (fun g hg => by
          obtain ⟨j, hj⟩ := List.getElem?_of_mem hg
          obtain ⟨f, hfj, hb⟩ := fldsB_all hfl j g hj
          simp only [fldB, Bool.and_eq_true] at hb
          cases hi : P.info? g.type with
          | none => simp [hi] at hb
          | some i => simp [sizeOf, typeInfo, hi])
        rw [Array.mapM_eq_mapM_toList]
        simp only [Sem.run_map, h1, Result.andThen_ok]
      obtain ⟨vs', hv', hc'⟩ := fillC_ok hs (place' := fun x => ((gs.toList.map fun g => (g.offset, ((P.info? g.type).map (·.size)).getD 0)).toArray)[x]?) (fun i x hi => by
        cases hn : nth fs i with
        | none => simp [hn] at hi
        | some f =>
          simp [hn] at hi
          subst hi
          obtain ⟨gs', g, i', hu', hg, ho, hi', hsz, _⟩ := st_field hl hT hn
          rw [hu] at hu'
          cases hu'
          have : gs.toList[i]? = some g := by simpa using hg
          simp [hg, ho, hi', hsz]) hf hφ hcells
      refine ⟨.agg vs', ?_, vs', rfl, hc'.1, hc'.2⟩
      have : (parts.map fun (i, x) => (i, evl tm x)).toList = parts.toList.map fun (i, x) => (i, evl tm x) := by simp
      simp only [Instr.build, Sem.run_bind, hz, Result.andThen_ok, run_underlying hu, hM, this, hv', Sem.run_pure]
    · cases he
  · rename_i sz ag n es ea z hT
    split at he
    · rename_i cs p hf
      simp only [Option.some.injEq, Prod.mk.injEq] at he
      obtain ⟨rfl, rfl⟩ := he
      obtain ⟨z', hz, hzc, hcells⟩ := zero_cells (o := o) (w := w) hl hT
      obtain ⟨E, hu, hes, i0, hinfo, hsz⟩ := arr_elem hl hT
      obtain ⟨vs', hv', hc'⟩ := fillC_ok hs (place' := fun i => some (i * es, es)) (fun i x hi => hi) hf hφ hcells
      refine ⟨.agg vs', ?_, vs', rfl, hc'.1, hc'.2⟩
      have : (parts.map fun (i, x) => (i, evl tm x)).toList = parts.toList.map fun (i, x) => (i, evl tm x) := by simp
      have hso : (sizeOf E).run P w = .ok es w := by simp [sizeOf, typeInfo, hinfo, hsz]
      simp only [Instr.build, Sem.run_bind, hz, Result.andThen_ok, run_underlying hu, hso, this, hv', Sem.run_pure]
    · cases he
  · cases he
end

end Go.Sy

/-
  SYMBOLIC STATES, PART G: steps that only compute; steps that make, write or grow memory of the call's own.
-/
namespace Go.Sy
variable [Drw]

section
variable {P : Program} {lay : Lay} {o : Nat → Tag} {h : Nat → Value} {A : St} {tm : Array Value} {w : World}

def evCall (lay : Lay) (A : St) (c : Call) : Option (SV × Prop) :=
  match c.callee, c.args.toList, c.argTypes.toList with
  | .builtin .len, [x], [T] => evLen lay A T x
  | .builtin .min, [x, y], _ => evMin A x y
  | .builtin .max, [x, y], _ => evMax A x y
  | _, _, _ => none

def evLook (lay : Lay) (A : St) (m k : Operand) : Option (SV × Prop) :=
  match rd A m, litOf A k with
  | some (.r i, p), some (.int .i64 n, q) => match lk A.rs i with
    | some (.mset xs) => some (.e (.c (.lit (.bool (decide (n ∈ xs))))), p ∧ q)
    | _ => none
  | _, _ => none

def isSetT (lay : Lay) (P : Program) (T : TypeId) : Bool := false

/-- what an operation that only computes comes to, and what it takes -/
def evP (lay : Lay) (A : St) (o : Oper) : Option (SV × Prop) :=
  match o.op with
  | .move x => evMove A x
  | .assign x => evMove A x
  | .pick c a b => evPick A c a b
  | .binOp op T x y _ => evBin lay A op T x y
  | .unOp op _ x => evUn A op x
  | .convert S D x => evConv lay A S D x
  | .makeInterface T x => evMkI lay A T x
  | .makeFunc fn f c => evFn A fn f c
  | .nilCheck x => evNil A x
  | .fieldAddr T x j => evFieldAddr lay A T x j
  | .indexAddr T x i => evIndexAddr lay A T x i
  | .load T x => evLoad lay A T x
  | .field T x j => evField lay A T x j
  | .index T x i => evIndex lay A T x i
  | .extract x j => evExtract A x j
  | .slice T x lo hi mx => evSlice lay A T x lo hi mx
  | .build T ps => evBuild lay A T ps
  | .typeAssert x _ T ok => match ok with
    | true => evAssert lay A x T
    | false => none
  | .call c => evCall lay A c
  | _ => none

theorem value_of {s : Sem Value} {v : Value} {w' : World} (hs : s.run P w = .ok v w') : (do pure (.value (← s)) : Sem Next).run P w = .ok (.value v) w' := by
  simp [hs]

theorem evP_ok (hl : LayOk P lay) (hs : Sat o h A tm w) {op : Oper} {sv : SV} {φ : Prop} (he : evP lay A op = some (sv, φ)) (hφ : φ) :
    ∃ v, (execOp (evl tm) op).run P w = .ok (.value v) w ∧ SvOk o h w sv v := by
  have fin : ∀ {s : Sem Value}, Gives P o h tm w s sv → (execOp (evl tm) op = do pure (.value (← s))) → ∃ v, (execOp (evl tm) op).run P w = .ok (.value v) w ∧ SvOk o h w sv v := by
    rintro s ⟨v, h1, h2⟩ e
    exact ⟨v, by rw [e]; exact value_of h1, h2⟩
  unfold evP at he
  split at he
  · rename_i x ho
    exact ⟨_, by simp only [execOp, ho]; rfl, evMove_ok hs he hφ⟩
  · rename_i x ho
    exact ⟨_, by simp only [execOp, ho]; rfl, evMove_ok hs he hφ⟩
  · rename_i c a b ho
    obtain ⟨t, u, v, h1, h2, h3, rfl⟩ := evPick_ok hs he hφ
    refine ⟨_, by simp [execOp, ho, h1, asBool]; rfl, ?_⟩
    cases t
    · exact ⟨by simpa using h3 rfl, rfl⟩
    · exact ⟨by simpa using h2 rfl, rfl⟩
  · rename_i b T x y _ ho; exact fin (evBin_ok hl hs he hφ) (by simp only [execOp, ho])
  · rename_i u _ x ho; exact fin (evUn_ok hs he hφ) (by simp only [execOp, ho])
  · rename_i S D x ho; exact fin (evConv_ok hl hs he hφ) (by simp only [execOp, ho])
  · rename_i T x ho; exact fin (evMkI_ok hl hs he hφ) (by simp only [execOp, ho])
  · rename_i fn f c ho; exact fin (evFn_ok hs he) (by simp only [execOp, ho])
  · rename_i x ho
    obtain ⟨⟨a, ha⟩, h2⟩ := evNil_ok hs he hφ
    refine ⟨evl tm x, ?_, h2⟩
    simp only [execOp, ho, ha]
    rfl
  · rename_i T x j ho; exact fin (evFieldAddr_ok hl hs he hφ) (by simp only [execOp, ho])
  · rename_i T x i ho; exact fin (evIndexAddr_ok hl hs he hφ) (by simp only [execOp, ho])
  · rename_i T x ho; exact fin (evLoad_ok hl hs he hφ) (by simp only [execOp, ho])
  · rename_i T x j ho; exact fin (evField_ok hl hs he hφ) (by simp only [execOp, ho])
  · rename_i T x i ho; exact fin (evIndex_ok hl hs he hφ) (by simp only [execOp, ho])
  · rename_i x j ho; exact fin (evExtract_ok hs he) (by simp only [execOp, ho])
  · rename_i T x lo hi mx ho; exact fin (evSlice_ok hl hs he hφ) (by simp only [execOp, ho])
  · rename_i T ps ho; exact fin (evBuild_ok hl hs he hφ) (by simp only [execOp, ho])
  · rename_i x X T ok ho
    split at he
    · exact fin (evAssert_ok (X := X) hl hs he hφ) (by simp only [execOp, ho])
    · cases he
  · rename_i c ho
    unfold evCall at he
    split at he
    · rename_i x T hc ha ht
      have ha' : c.args = #[x] := by cases hcc : c.args; simp_all
      have ht' : c.argTypes = #[T] := by cases hcc : c.argTypes; simp_all
      exact fin (evLen_ok (ty := op.type) hl hs he hφ) (by simp only [execOp, ho, resolve, hc, invoke, builtin, ha', ht']; simp)
    · rename_i x y hc ha
      have ha' : c.args = #[x, y] := by cases hcc : c.args; simp_all
      exact fin (evMin_ok (ty := op.type) (ts := c.argTypes) hs he hφ) (by simp only [execOp, ho, resolve, hc, invoke, builtin, ha']; simp)
    · rename_i x y hc ha
      have ha' : c.args = #[x, y] := by cases hcc : c.args; simp_all
      exact fin (evMax_ok (ty := op.type) (ts := c.argTypes) hs he hφ) (by simp only [execOp, ho, resolve, hc, invoke, builtin, ha']; simp)
    · cases he
  · cases he

/-! a value goes into a slot -/
theorem Sat.put (hs : Sat o h A tm w) {d : Nat} (hd : d < A.n) {sv : SV} {v : Value} (hv : SvOk o h w sv v) : Sat o h ⟨A.n, (d, sv) :: A.sl, A.rs⟩ (tm.setIfInBounds d v) w := by
  refine ⟨by simp [hs.size], hs.tags, fun s x hl => ?_, hs.res⟩
  rw [lk_cons] at hl
  have hsz := hs.size
  split at hl
  · rename_i e
    subst e
    cases hl
    have : (tm.setIfInBounds d v).getD d undef = v := by
      rw [Array.getD_eq_getD_getElem?, Array.getElem?_setIfInBounds_self]; simp [hsz, hd]
    rw [this]; exact hv
  · rename_i hne
    have : (tm.setIfInBounds d v).getD s undef = tm.getD s undef := by
      rw [Array.getD_eq_getD_getElem?, Array.getElem?_setIfInBounds_ne hne, ← Array.getD_eq_getD_getElem?]
    rw [this]; exact hs.slot s x hl

/-! the rules of one operation -/
def OpStep (P : Program) (op : Oper) (A A' : St) : Prop := ∀ o h tm w, Sat o h A tm w → ∃ x v w' o' h',
  (execOp (evl tm) op).run P w = .ok x w' ∧ (x = .value v ∨ (x = .skip ∧ v = undef)) ∧ Sat o' h' A' ((⟨tm, []⟩ : Act).put op.dst v).tmps w' ∧ Ext o w o' w'

theorem KW.op {k : List K} {A' : St} {Q : Exit → St → Prop} {all : Array Oper} {op : Oper} {rest : List Oper} (hg : op.guard = none) (hst : OpStep P op A A')
    (hn : KW P (.ops all rest :: k) .normal A' Q) : KW P (.ops all (op :: rest) :: k) .normal A Q := by
  intro o h tm w hs
  obtain ⟨x, v, w', o', h', hr, hx, hs', hext⟩ := hst o h tm w hs
  show wpList P all (kq P (lift Q o w) k) (op :: rest) ⟨tm, []⟩ w
  unfold wpList
  rw [if_pos (by simp [Region.wanted, hg])]
  left
  unfold Oper.wp
  show op.upon P ⟨tm, []⟩ _ _ ((execOp (evl tm) op).run P w)
  rw [hr]
  have hnext : wpList P all (kq P (lift Q o w) k) rest ((⟨tm, []⟩ : Act).put op.dst v) w' := by
    have := hn o' h' _ w' hs'
    have hput : (⟨tm, []⟩ : Act).put op.dst v = ⟨((⟨tm, []⟩ : Act).put op.dst v).tmps, []⟩ := by cases op.dst <;> rfl
    rw [hput]
    exact wpList_mono (fun e a w'' hq => kq_mono (lift_trans hext) k e a w'' hq) rest _ w' this
  rcases hx with rfl | ⟨rfl, rfl⟩
  · exact hnext
  · exact hnext

theorem OpStep.pure (hl : LayOk P lay) {op : Oper} {d : Nat} {sv : SV} {φ : Prop} (he : evP lay A op = some (sv, φ)) (hd : op.dst = some d) (hlt : d < A.n) (hφ : φ) :
    OpStep P op A ⟨A.n, (d, sv) :: A.sl, A.rs⟩ := by
  intro o h tm w hs
  obtain ⟨v, hr, hv⟩ := evP_ok hl hs he hφ
  refine ⟨_, v, w, o, h, hr, .inl rfl, ?_, Ext.refl o w⟩
  simp only [Act.put, hd]
  exact hs.put hlt hv

/-! a guarded operation that only computes -/
def gdOf (A : St) (all : Array Oper) (j : Nat) (want : Bool) : Option Bool :=
  match nth all.toList j with
  | some x => match x.dst with
    | some d => match lk A.sl d with
      | some (.e (.c (.lit (.bool b)))) => (match want with | true => some b | false => some (!b))
      | some (.e (.gd b0 (.c (.lit (.bool b))))) => (match want with | true => some (b0 && b) | false => some (b0 && !b))
      | _ => none
    | none => none
  | none => none

theorem gdOf_true (hs : Sat o h A tm w) {all : Array Oper} {j : Nat} {want b : Bool} (hb : gdOf A all j want = some b) (ht : b = true) : yielded all tm j = some want := by
  unfold gdOf at hb
  split at hb
  · rename_i x hx
    rw [nth_eq] at hx
    have hx' : all[j]? = some x := by simpa using hx
    split at hb
    · rename_i d hd
      have key : ∀ b', tm.getD d undef = .bool b' → yielded all tm j = some b' := by
        intro b' hv
        have : tm[d]? = some (.bool b') := by
          rw [Array.getD_eq_getD_getElem?] at hv
          cases hq : tm[d]? with
          | none => rw [hq] at hv; cases hv
          | some u => rw [hq] at hv; exact congrArg some hv
        simp [yielded, hx', hd, this]
      split at hb
      · rename_i b' hl
        have hv := key b' (hs.slot d _ hl).1
        rw [hv]
        cases want <;> cases b' <;> simp_all
      · rename_i b0 b' hl
        have hb0 : b0 = true := by cases want <;> cases b0 <;> simp_all
        have hv := key b' ((hs.slot d _ hl).1 hb0).1
        rw [hv]
        cases want <;> cases b' <;> simp_all
      · cases hb
    · cases hb
  · cases hb

theorem gdOf_false (hs : Sat o h A tm w) {all : Array Oper} {j : Nat} {want b : Bool} (hb : gdOf A all j want = some b) (ht : b = false) : yielded all tm j ≠ some want := by
  unfold gdOf at hb
  split at hb
  · rename_i x hx
    rw [nth_eq] at hx
    have hx' : all[j]? = some x := by simpa using hx
    split at hb
    · rename_i d hd
      have key : ∀ v, tm.getD d undef = v → yielded all tm j = (match v with | .bool b => some b | _ => none) := by
        intro v hv
        cases hq : tm[d]? with
        | none =>
          rw [Array.getD_eq_getD_getElem?, hq] at hv
          subst hv
          simp [yielded, hx', hd, hq, undef]
        | some u =>
          rw [Array.getD_eq_getD_getElem?, hq] at hv
          simp only [Option.getD_some] at hv
          subst hv
          simp only [yielded, hx', Option.bind_some, hd, hq]
          cases u <;> rfl
      split at hb
      · rename_i b' hl
        have hv := key _ (hs.slot d _ hl).1
        rw [hv]
        clear hv key
        cases want <;> cases b' <;> simp at hb ⊢ <;> simp_all
      · rename_i b0 b' hl
        have hsl := hs.slot d _ hl
        cases b0 with
        | false =>
          have hv := key _ (hsl.2 rfl)
          rw [hv]
          simp [undef]
        | true =>
          have hv := key _ (hsl.1 rfl).1
          rw [hv]
          clear hv key
          cases want <;> cases b' <;> simp at hb ⊢ <;> simp_all
      · cases hb
    · cases hb
  · cases hb

theorem KW.gd (hl : LayOk P lay) {k : List K} {Q : Exit → St → Prop} {all : Array Oper} {op : Oper} {rest : List Oper} {j : Nat} {want b : Bool} {d : Nat} {x : EV} {φ : Prop}
    (hg : op.guard = some (j, want)) (hb : gdOf A all j want = some b) (he : evP lay A op = some (.e x, φ)) (hd : op.dst = some d) (hlt : d < A.n) (hφ : b = true → φ)
    (hn : KW P (.ops all rest :: k) .normal ⟨A.n, (d, .e (.gd b x)) :: A.sl, A.rs⟩ Q) : KW P (.ops all (op :: rest) :: k) .normal A Q := by
  intro o h tm w hs
  show wpList P all (kq P (lift Q o w) k) (op :: rest) ⟨tm, []⟩ w
  unfold wpList
  have hput : ∀ v, (⟨tm, []⟩ : Act).put op.dst v = ⟨tm.setIfInBounds d v, []⟩ := fun v => by simp [Act.put, hd]
  have hnext : ∀ v, ((b = true → EvOk o h w x v) ∧ (b = false → v = undef)) → wpList P all (kq P (lift Q o w) k) rest ((⟨tm, []⟩ : Act).put op.dst v) w := by
    intro v hv
    rw [hput]
    exact hn o h _ w (hs.put hlt (v := v) hv)
  by_cases hbt : b = true
  · have hy := gdOf_true hs hb hbt
    rw [if_pos (by simp [Region.wanted, hg, hy])]
    left
    obtain ⟨v, hr, hv⟩ := evP_ok hl hs he (hφ hbt)
    unfold Oper.wp
    show op.upon P ⟨tm, []⟩ _ _ ((execOp (evl tm) op).run P w)
    rw [hr]
    exact hnext v ⟨fun _ => hv, fun e => by simp [hbt] at e⟩
  · have hbf : b = false := by simpa using hbt
    have hy := gdOf_false hs hb hbf
    rw [if_neg (by simp [Region.wanted, hg, hy])]
    exact hnext undef ⟨fun e => absurd e hbt, fun _ => rfl⟩
end

end Go.Sy

/-
  SYMBOLIC STATES, PART H: steps that make, write or grow memory of the call's own.
-/
namespace Go.Sy
variable [Drw]

def memN (d : Nat) : List Nat → Bool
  | [] => false
  | x :: l => Nat.beq x d || memN d l
def EV.men (d : Nat) : EV → Bool
  | .r i => Nat.beq i d
  | .pt i _ _ _ => Nat.beq i d
  | .fn _ hs => memN d hs
  | .gd _ x => x.men d
  | _ => false
def menEs (d : Nat) : List EV → Bool
  | [] => false
  | x :: l => x.men d || menEs d l
def SV.men (d : Nat) : SV → Bool
  | .e x => x.men d
  | .tup xs => menEs d xs
def Res.men (d : Nat) : Res → Bool
  | .box _ cs _ => menEs d cs
  | _ => false
def freshS (d : Nat) : List (Nat × SV) → Bool
  | [] => true
  | (_, x) :: l => !x.men d && freshS d l
def freshR (d : Nat) : List (Nat × Res) → Bool
  | [] => true
  | (j, r) :: l => !Nat.beq j d && (!r.men d && freshR d l)
def freshB (A : St) (d : Nat) : Bool := freshS d A.sl && freshR d A.rs

theorem memN_ok {d : Nat} : ∀ {l : List Nat}, memN d l = false → ∀ x ∈ l, x ≠ d
  | [], _, x, hx => by simp at hx
  | y :: l, hm, x, hx => by
    simp only [memN, Bool.or_eq_false_iff] at hm
    rcases List.mem_cons.1 hx with rfl | hx
    · rintro rfl; simp at hm
    · exact memN_ok hm.2 x hx

section
variable {P : Program} {lay : Lay} {o o' : Nat → Tag} {h h' : Nat → Value} {A : St} {tm : Array Value} {w w' : World}

theorem EvOk.hupd {x : EV} {v : Value} (hh : ∀ j, h' j ≠ h j → x.men j = false) (hx : EvOk o h w x v) : EvOk o h' w x v := by
  have key : ∀ j, x.men j = true → h' j = h j := fun j hj => Classical.byContradiction fun hne => by rw [hh j hne] at hj; cases hj
  induction x with
  | r i => show v = h' i; rw [key i (by simp [EV.men])]; exact hx
  | pt i k e q => show ∃ b, headOf (h' i) = some b ∧ _; rw [key i (by simp [EV.men])]; exact hx
  | fn g hs =>
    show v = .func (.func g) #[] (hs.map h').toArray
    have : hs.map h' = hs.map h := List.map_congr_left fun j hj => Classical.byContradiction fun hne => memN_ok (hh j hne) j hj rfl
    rw [this]; exact hx
  | gd b x ih => exact ⟨fun e => ih hh (hx.1 e) key, hx.2⟩
  | _ => exact hx

theorem menEs_ok {d : Nat} : ∀ {l : List EV}, menEs d l = false → ∀ (q : Nat) x, l[q]? = some x → x.men d = false
  | [], _, _, _, hq => by simp at hq
  | y :: l, hm, 0, x, hq => by simp only [menEs, Bool.or_eq_false_iff] at hm; simp at hq; subst hq; exact hm.1
  | y :: l, hm, q + 1, x, hq => by simp only [menEs, Bool.or_eq_false_iff] at hm; simp at hq; exact menEs_ok hm.2 q x hq

theorem SvOk.hupd {x : SV} {v : Value} (hh : ∀ j, h' j ≠ h j → x.men j = false) (hx : SvOk o h w x v) : SvOk o h' w x v := by
  cases x with
  | e x => exact EvOk.hupd hh hx
  | tup xs =>
    obtain ⟨vs, rfl, h1, h2⟩ := hx
    exact ⟨vs, rfl, h1, fun q y hq => let ⟨u, hu, hy⟩ := h2 q y hq; ⟨u, hu, hy.hupd fun j hj => menEs_ok (hh j hj) q y hq⟩⟩

theorem freshS_ok {d : Nat} : ∀ {l : List (Nat × SV)}, freshS d l = true → ∀ s x, lk l s = some x → x.men d = false
  | [], _, _, _, hl => by simp [lk] at hl
  | (j, y) :: l, hf, s, x, hl => by
    simp only [freshS, Bool.and_eq_true, Bool.not_eq_true'] at hf
    rw [lk_cons] at hl
    split at hl
    · cases hl; exact hf.1
    · exact freshS_ok hf.2 s x hl
theorem freshR_ok {d : Nat} : ∀ {l : List (Nat × Res)}, freshR d l = true → ∀ i r, lk l i = some r → i ≠ d ∧ r.men d = false
  | [], _, _, _, hl => by simp [lk] at hl
  | (j, y) :: l, hf, i, r, hl => by
    simp only [freshR, Bool.and_eq_true, Bool.not_eq_true'] at hf
    rw [lk_cons] at hl
    split at hl
    · rename_i e
      subst e
      cases hl
      refine ⟨?_, hf.2.1⟩
      rintro rfl; simp at hf
    · exact freshR_ok hf.2.2 i r hl

/-- from one memory to the next: what is stable stays, and so do all resources but those of T; handles whose value turns are named nowhere -/
structure Chg (o : Nat → Tag) (h : Nat → Value) (w : World) (o' : Nat → Tag) (h' : Nat → Value) (w' : World) (T : Nat → Prop) (A : St) : Prop where
  keep : Keep o w o' w'
  res : ∀ i b, ¬ T i → o b = .hd i → o' b = .hd i ∧ w'.heap[b]? = w.heap[b]?
  hh : ∀ j, h' j ≠ h j → freshB A j = true

theorem Chg.slot {T : Nat → Prop} (hc : Chg o h w o' h' w' T A) (hs : Sat o h A tm w) : ∀ s x, lk A.sl s = some x → SvOk o' h' w' x (tm.getD s undef) := by
  intro s x hl
  refine SvOk.hupd (h := h) (fun j hj => ?_) ((hs.slot s x hl).keep hc.keep)
  have := hc.hh j hj
  simp only [freshB, Bool.and_eq_true] at this
  exact freshS_ok this.1 s x hl

theorem ResOk.chg {i : Nat} {r : Res} (hk : Keep o w o' w') (hb : ∀ b, o b = .hd i → o' b = .hd i ∧ w'.heap[b]? = w.heap[b]?) (hi : h' i = h i) (hm : ∀ j, h' j ≠ h j → r.men j = false)
    (hr : ResOk o h w i r) : ResOk o' h' w' i r := by
  cases r with
  | gone => trivial
  | own E x =>
    cases x with
    | sl n k f =>
      obtain ⟨vs, hown, htag, hv⟩ := hr
      refine ⟨vs, ?_, fun b hb' => ?_, fun e q he hq => ?_⟩
      · rw [hi]
        refine ⟨hown.1, ?_⟩
        rcases hown.2 with h1 | ⟨g, cap, cur, h1, h2, h3, h4⟩
        · exact .inl h1
        · refine .inr ⟨g, cap, cur, h1, h2, ?_, h4⟩
          rw [(hb g (htag g (by rw [h1]; rfl))).2]; exact h3
      · rw [hi] at hb'; exact (hb b (htag b hb')).1
      · obtain ⟨u, hu, hx⟩ := hv e q he hq
        exact ⟨u, hu, hx.keep hk⟩
    | lit _ => exact hr.elim
    | clo _ _ _ _ => exact hr.elim
  | box T cs bk =>
    obtain ⟨b, vs, h0, h1, h2, h3, h4, h5⟩ := hr
    refine ⟨b, vs, h0, hi.trans h1, (hb b h3).2.trans h2, (hb b h3).1, h4, fun q x hq => ?_⟩
    obtain ⟨u, hu, hone, hx⟩ := h5 q x hq
    exact ⟨u, hu, hone, (hx.keep hk).hupd fun j hj => menEs_ok (hm j hj) q x hq⟩
  | mset xs =>
    obtain ⟨b, es, clock, h1, h2, h3, h4⟩ := hr
    exact ⟨b, es, clock, hi.trans h1, (hb b h3).2.trans h2, (hb b h3).1, h4⟩
  | glo b T vs => exact ⟨(hk b hr.1).1, (hk b hr.1).2.trans hr.2⟩

theorem Chg.resOk {T : Nat → Prop} (hc : Chg o h w o' h' w' T A) (hs : Sat o h A tm w) : ∀ i r, ¬ T i → lk A.rs i = some r → ResOk o' h' w' i r := by
  intro i r hT hl
  have hf : ∀ j, h' j ≠ h j → i ≠ j ∧ r.men j = false := fun j hj => by
    have := hc.hh j hj
    simp only [freshB, Bool.and_eq_true] at this
    exact freshR_ok this.2 i r hl
  exact ResOk.chg hc.keep (fun b hb => hc.res i b hT hb) (Classical.byContradiction fun hne => (hf i hne).1 rfl) (fun j hj => (hf j hj).2) (hs.res i r hl)

/-! a new block -/
def updH (h : Nat → Value) (d : Nat) (v : Value) : Nat → Value := fun j => if j = d then v else h j
def updO (o : Nat → Tag) (b : Nat) (t : Tag) : Nat → Tag := fun j => if j = b then t else o j

theorem Sat.alloc (hs : Sat o h A tm w) {d : Nat} (hd : d < A.n) (hf : freshB A d = true) {obj : Obj} {v : Value} {r : Res}
    (hr : ResOk (updO o w.heap.size (.hd d)) (updH h d v) (w.alloc obj) d r) {sv : SV} (hsv : SvOk (updO o w.heap.size (.hd d)) (updH h d v) (w.alloc obj) sv v) :
    Sat (updO o w.heap.size (.hd d)) (updH h d v) ⟨A.n, (d, sv) :: A.sl, (d, r) :: A.rs⟩ (tm.setIfInBounds d v) (w.alloc obj) ∧ Ext o w (updO o w.heap.size (.hd d)) (w.alloc obj) := by
  have hold : ∀ b, b < w.heap.size → (w.alloc obj).heap[b]? = w.heap[b]? := fun b hb => heap_alloc_old w obj hb
  have hob : ∀ b, b < w.heap.size → updO o w.heap.size (.hd d) b = o b := fun b hb => by simp [updO, show ¬ b = w.heap.size by omega]
  have hc : Chg o h w (updO o w.heap.size (.hd d)) (updH h d v) (w.alloc obj) (fun _ => False) A := by
    refine ⟨fun b hb => ?_, fun i b _ hb => ?_, fun j hj => ?_⟩
    · have := (hs.tags b).2 hb; exact ⟨(hob b this).trans hb, hold b this⟩
    · have := (hs.tags b).1 i hb; exact ⟨(hob b this).trans hb, hold b this⟩
    · have : j = d := Classical.byContradiction fun hne => hj (by simp [updH, hne])
      subst this; exact hf
  refine ⟨⟨by simp [hs.size], fun b => ?_, fun s x hl => ?_, fun i r' hl => ?_⟩, ⟨by simp, rfl, rfl, rfl, Nat.le_refl _, fun b hb hlt => ⟨(hob b hlt).trans hb, hold b hlt⟩, fun b hb hlt => ⟨(hob b hlt).trans hb, hold b hlt⟩⟩⟩
  · simp only [World.size_alloc]
    by_cases hb : b = w.heap.size
    · subst hb; exact ⟨fun _ _ => by omega, fun _ => by omega⟩
    · simp only [updO, hb, if_false]
      exact ⟨fun i hi => Nat.lt_succ_of_lt ((hs.tags b).1 i hi), fun hi => Nat.lt_succ_of_lt ((hs.tags b).2 hi)⟩
  · rw [lk_cons] at hl
    have hsz := hs.size
    split at hl
    · rename_i e
      subst e
      cases hl
      have : (tm.setIfInBounds d v).getD d undef = v := by
        rw [Array.getD_eq_getD_getElem?, Array.getElem?_setIfInBounds_self]; simp [hsz, hd]
      rw [this]; exact hsv
    · rename_i hne
      have : (tm.setIfInBounds d v).getD s undef = tm.getD s undef := by
        rw [Array.getD_eq_getD_getElem?, Array.getElem?_setIfInBounds_ne hne, ← Array.getD_eq_getD_getElem?]
      rw [this]; exact hc.slot hs s x hl
  · rw [lk_cons] at hl
    split at hl
    · rename_i e; subst e; cases hl; exact hr
    · exact hc.resOk hs i r' (fun e => e) hl

/-! cells that may hold handles -/
def mapC : List CV → List EV
  | [] => []
  | x :: l => .c x :: mapC l
theorem mapC_eq : ∀ l : List CV, mapC l = l.map .c
  | [] => rfl
  | x :: l => by simp [mapC, mapC_eq l]

def partE (A : St) (x : Operand) : Option (List EV × Prop) :=
  match rd A x with
  | some (.c y, p) => some ([.c y], p)
  | some (.ag cs, p) => some (mapC cs, p)
  | some (.r j, p) => match lk A.rs j with
    | some (.own E x) => some ([.r j], p)
    | some (.box _ _ _) => some ([.r j], p)
    | _ => none
  | _ => none

def CellsE (o : Nat → Tag) (h : Nat → Value) (w : World) (vs : Array Value) (cs : List EV) : Prop :=
  vs.size = cs.length ∧ ∀ (q : Nat) x, cs[q]? = some x → ∃ u, vs[q]? = some u ∧ u.oneCell' = true ∧ EvOk o h w x u

theorem partE_ok (hs : Sat o h A tm w) {x : Operand} {xs : List EV} {p : Prop} (hp : partE A x = some (xs, p)) (hφ : p) : CellsE o h w (evl tm x).cells xs := by
  have one : ∀ v : Value, v.oneCell' = true → v.cells = #[v] := fun v hv => by cases v <;> first | rfl | simp [Value.oneCell'] at hv
  unfold partE at hp
  split at hp
  · rename_i y p' hr
    simp only [Option.some.injEq, Prod.mk.injEq] at hp
    obtain ⟨rfl, rfl⟩ := hp
    have hv : RepV o w y (evl tm x) := rd_ok hs hr hφ
    rw [one _ hv.one]
    refine ⟨rfl, fun q y' hq => ?_⟩
    cases q with
    | zero => simp at hq; subst hq; exact ⟨_, rfl, hv.one, hv⟩
    | succ q => simp at hq
  · rename_i cs p' hr
    simp only [Option.some.injEq, Prod.mk.injEq] at hp
    obtain ⟨rfl, rfl⟩ := hp
    obtain ⟨vs, hv, h1, h2⟩ := rd_ok hs hr hφ
    rw [hv, mapC_eq]
    refine ⟨by rw [List.length_map]; exact h1, fun q y hq => ?_⟩
    rw [List.getElem?_map] at hq
    cases hcq : cs[q]? with
    | none => simp [hcq] at hq
    | some z =>
      simp [hcq] at hq
      subst hq
      obtain ⟨u, hu, hr⟩ := h2 q z hcq
      exact ⟨u, hu, hr.one, hr⟩
  · rename_i j p' hr
    have hv : ∀ p', rd A x = some (.r j, p') → p' → evl tm x = h j := fun p' hr hp' => rd_ok hs hr hp'
    split at hp
    · rename_i E y hl
      simp only [Option.some.injEq, Prod.mk.injEq] at hp
      obtain ⟨rfl, rfl⟩ := hp
      have hv := hv _ hr hφ
      have hone : (h j).oneCell' = true := by
        have := hs.res j _ hl
        cases y with
        | sl n k f => obtain ⟨a, cap, hj, _⟩ := own_slice this; rw [hj]; rfl
        | lit _ => exact this.elim
        | clo _ _ _ _ => exact this.elim
      rw [hv, one _ hone]
      refine ⟨rfl, fun q y' hq => ?_⟩
      cases q with
      | zero => simp at hq; subst hq; exact ⟨_, rfl, hone, rfl⟩
      | succ q => simp at hq
    · rename_i T cs bk hl
      simp only [Option.some.injEq, Prod.mk.injEq] at hp
      obtain ⟨rfl, rfl⟩ := hp
      have hv := hv _ hr hφ
      have hone : (h j).oneCell' = true := by
        obtain ⟨b, hb⟩ := box_ptr (hs.res j _ hl)
        rw [hb]; rfl
      rw [hv, one _ hone]
      refine ⟨rfl, fun q y' hq => ?_⟩
      cases q with
      | zero => simp at hq; subst hq; exact ⟨_, rfl, hone, rfl⟩
      | succ q => simp at hq
    · cases hp
  · cases hp

/-! a new box -/
theorem Sat.newBox (hs : Sat o h A tm w) {d : Nat} (hd : d < A.n) (hf : freshB A d = true) {vs : Array Value} {cs : List EV} {T : Nat} (hc : CellsE o h w vs cs) (hm : menEs d cs = false) :
    ∃ o' h', Sat o' h' ⟨A.n, (d, .e (.r d)) :: A.sl, (d, .box T cs none) :: A.rs⟩ (tm.setIfInBounds d (.pointer (some ⟨w.heap.size, 0, none⟩))) (w.alloc (.cells vs T)) ∧ Ext o w o' (w.alloc (.cells vs T)) := by
  refine ⟨_, _, Sat.alloc hs hd hf (v := .pointer (some ⟨w.heap.size, 0, none⟩)) (r := .box T cs none) ?_ (sv := .e (.r d)) (by simp [SvOk, EvOk, updH])⟩
  have hob : ∀ b, b < w.heap.size → updO o w.heap.size (.hd d) b = o b := fun b hb => by simp [updO, show ¬ b = w.heap.size by omega]
  have hk : Keep o w (updO o w.heap.size (.hd d)) (w.alloc (.cells vs T)) := fun b hb => by
    have := (hs.tags b).2 hb; exact ⟨(hob b this).trans hb, heap_alloc_old w _ this⟩
  refine ⟨w.heap.size, vs, (fun b' hb' => by cases hb'), by simp [updH], heap_alloc_new w _, by simp [updO], hc.1, fun q x hq => ?_⟩
  obtain ⟨u, hu, hone, hx⟩ := hc.2 q x hq
  refine ⟨u, hu, hone, (hx.keep hk).hupd fun j hj => ?_⟩
  have : j = d := Classical.byContradiction fun hne => hj (by simp [updH, hne])
  subst this; exact menEs_ok hm q x hq

/-! a new row -/
theorem Sat.newRow (hs : Sat o h A tm w) {d : Nat} (hd : d < A.n) (hf : freshB A d = true) {cur : Array Value} {E n k cap : Nat} {f : Nat → Nat → CV}
    (hnc : n ≤ cap) (hcm : cap ≤ maxLen) (hsz : cur.size = cap * k) (hv : ∀ e q, e < n → q < k → ∃ u, cur[e * k + q]? = some u ∧ RepV o w (f e q) u) :
    ∃ o' h', Sat o' h' ⟨A.n, (d, .e (.r d)) :: A.sl, (d, .own E (.sl n k f)) :: A.rs⟩ (tm.setIfInBounds d (.slice (some ⟨w.heap.size, 0, none⟩) n cap)) (w.alloc (.cells cur E)) ∧ Ext o w o' (w.alloc (.cells cur E)) := by
  refine ⟨_, _, Sat.alloc hs hd hf (v := .slice (some ⟨w.heap.size, 0, none⟩) n cap) (r := .own E (.sl n k f)) ?_ (sv := .e (.r d)) (by simp [SvOk, EvOk, updH])⟩
  have hob : ∀ b, b < w.heap.size → updO o w.heap.size (.hd d) b = o b := fun b hb => by simp [updO, show ¬ b = w.heap.size by omega]
  have hk : Keep o w (updO o w.heap.size (.hd d)) (w.alloc (.cells cur E)) := fun b hb => by
    have := (hs.tags b).2 hb; exact ⟨(hob b this).trans hb, heap_alloc_old w _ this⟩
  have hle : n * k ≤ cap * k := Nat.mul_le_mul_right k hnc
  refine ⟨cur.toList.take (n * k), ⟨?_, .inr ⟨w.heap.size, cap, cur, by simp [updH], Nat.zero_le _, heap_alloc_new w _, hnc, hcm, hsz, rfl⟩⟩, ?_, ?_⟩
  · rw [List.length_take, Array.length_toList, hsz]; omega
  · intro b hb
    simp [updH, Value.ownBlock] at hb
    subst hb
    simp [updO]
  · intro e q he hq
    obtain ⟨u, hu, hx⟩ := hv e q he hq
    refine ⟨u, ?_, hx.keep hk⟩
    have hlt : e * k + q < n * k := by
      have : (e + 1) * k ≤ n * k := Nat.mul_le_mul_right k he
      rw [Nat.add_mul] at this; omega
    rw [List.getElem?_take, if_pos hlt]
    simpa using hu
end

end Go.Sy

/-
  SYMBOLIC STATES, PART I: the evaluators of what makes or writes memory of the call's own.
-/
namespace Go.Sy
variable [Drw]

def ints (xs : List Int) : CV := .sl xs.length 1 (fun e _ => .lit (.int .i64 (xs.getD e 0)))
def bools (xs : List Bool) : CV := .sl xs.length 1 (fun e _ => .lit (.bool (xs.getD e false)))
def nthD {α : Type} (d : α) : List α → Nat → α
  | [], _ => d
  | x :: _, 0 => x
  | _ :: l, n + 1 => nthD d l n
theorem nthD_eq {α : Type} (d : α) : ∀ (l : List α) (n : Nat), nthD d l n = l.getD n d
  | [], _ => by simp [nthD]
  | x :: l, 0 => by simp [nthD]
  | x :: l, n + 1 => by simp [nthD, nthD_eq d l n]
def rowsC (k len : Nat) (cs : List CV) : CV := .sl len k (fun e q => nthD (.lit undef) cs (e * k + q))

def asInts : List CV → Option (List Int)
  | [] => some []
  | .lit (.int .i64 n) :: l => match asInts l with
    | some xs => some (n :: xs)
    | none => none
  | _ => none

theorem asInts_ok : ∀ {l : List CV} {xs : List Int}, asInts l = some xs → l = xs.map fun n => .lit (.int .i64 n)
  | [], xs, ha => by simp [asInts] at ha; subst ha; rfl
  | x :: l, xs, ha => by
    unfold asInts at ha
    split at ha
    · rename_i e; cases e
    · rename_i n l' e
      cases e
      split at ha
      · rename_i ys hy
        simp only [Option.some.injEq] at ha
        subst ha
        rw [asInts_ok hy]; rfl
      · cases ha
    · cases ha

def zE : List Value → List EV
  | [] => []
  | v :: l => .c (.lit v) :: zE l
theorem zE_eq : ∀ l : List Value, zE l = l.map fun v => .c (.lit v)
  | [] => rfl
  | v :: l => by simp [zE, zE_eq l]

def repZ (z : List CV) : Nat → List CV
  | 0 => []
  | n + 1 => z ++ repZ z n
def appN {α : Type} : List α → List α → List α
  | [], l => l
  | x :: k, l => x :: appN k l
theorem appN_eq {α : Type} : ∀ k l : List α, appN k l = k ++ l
  | [], l => rfl
  | x :: k, l => by simp [appN, appN_eq k l]

theorem repZ_length (z : List CV) : ∀ n, (repZ z n).length = n * z.length
  | 0 => by simp [repZ]
  | n + 1 => by simp [repZ, repZ_length z n, Nat.add_mul, Nat.add_comm]
theorem repZ_get (z : List CV) : ∀ n q, q < n * z.length → (repZ z n)[q]? = z[q % z.length]?
  | 0, q, hq => by omega
  | n + 1, q, hq => by
    rw [Nat.add_mul] at hq
    simp only [repZ]
    by_cases h : q < z.length
    · rw [List.getElem?_append_left h, Nat.mod_eq_of_lt h]
    · rw [List.getElem?_append_right (by omega), repZ_get z n _ (by omega), ← Nat.mod_eq_sub_mod (by omega)]

section
variable {P : Program} {lay : Lay} {o o' : Nat → Tag} {h h' : Nat → Value} {A : St} {tm : Array Value} {w w' : World}

theorem zero_init (hl : LayOk P lay) {E : Nat} {z : Value} {zl : List Value} (hz : z.cells.toList = zl) (hone : ∀ b ∈ zl, b.oneCell' = true) (len size : Nat) (hsz : zl.length = size) :
    CellsOk o w ((Array.range (len * size)).map (z.cells[· % z.cells.size]!)) (repZ (zl.map .lit) len) := by
  have hs : z.cells.size = size := by rw [← hsz, ← hz]; simp
  refine ⟨by simp [repZ_length, hsz], fun q x hq => ?_⟩
  have hlt : q < len * size := by
    have := (List.getElem?_eq_some_iff.1 hq).1
    rw [repZ_length, List.length_map, hsz] at this; exact this
  rw [repZ_get _ _ _ (by rw [List.length_map, hsz]; exact hlt), List.length_map, hsz, List.getElem?_map] at hq
  cases hzq : zl[q % size]? with
  | none => simp [hzq] at hq
  | some u =>
    simp [hzq] at hq
    subst hq
    refine ⟨u, ?_, rfl, hone u (List.mem_of_getElem? hzq)⟩
    have hq2 : z.cells[q % size]? = some u := by rw [← hz] at hzq; simpa using hzq
    simp [Array.getElem?_map, Array.getElem?_range, hlt, hs, getElem!_def, hq2]

/-- what an operation that makes or writes memory of the call's own comes to, and what it takes -/
def evE (lay : Lay) (A : St) (op : Oper) : Option (St × Prop) :=
  match op.op, op.dst with
  | .alloc T, some d => match lk lay T, Nat.blt d A.n, freshB A d with
    | some r, true, true => some (⟨A.n, (d, .e (.r d)) :: A.sl, (d, .box T (zE r.zero) none) :: A.rs⟩, True)
    | _, _, _ => none
  | .box T x, some d => match partE A x, Nat.blt d A.n, freshB A d with
    | some (cs, p), true, true => match menEs d cs with
      | false => some (⟨A.n, (d, .e (.r d)) :: A.sl, (d, .box T cs none) :: A.rs⟩, p)
      | true => none
    | _, _, _ => none
  | .buildSlice T len ps, some d => match lk lay T, Nat.blt d A.n, freshB A d with
    | some ⟨_, _, .sl E es _, _⟩, true, true => match lk lay E, Nat.ble (len * es) 16777216 with
      | some rE, true => match fillC A (fun i => some (i * es, es)) (repZ (rE.zero.map .lit) len) ps.toList with
        | some (cs, p) => match Nat.beq es 1, asInts cs with
          | true, some xs => match Nat.beq xs.length len with
            | true => some (⟨A.n, (d, .e (.r d)) :: A.sl, (d, .own E (ints xs)) :: A.rs⟩, p)
            | false => none
          | _, _ => some (⟨A.n, (d, .e (.r d)) :: A.sl, (d, .own E (rowsC es len cs)) :: A.rs⟩, p)
        | none => none
      | _, _ => none
    | _, _, _ => none
  | .makeSlice T ln cp, some d => match lk lay T, Nat.blt d A.n, freshB A d with
    | some ⟨_, _, .sl E es bytes, _⟩, true, true => match lk lay E, litOf A ln, litOf A cp with
      | some rE, some (.int _ l, p), some (.int _ c, q) =>
        some (⟨A.n, (d, .e (.r d)) :: A.sl, (d, .own E (match rE.zero with
          | [.int .i64 0] => ints (List.replicate l.toNat 0)
          | [.bool false] => bools (List.replicate l.toNat false)
          | z => .sl l.toNat es (fun _ q => .lit (nthD undef z q)))) :: A.rs⟩, p ∧ q ∧ 0 ≤ l ∧ l ≤ c ∧ c * bytes ≤ 140737488355328 ∧ c ≤ 140737488355328)
      | _, _, _ => none
    | _, _, _ => none
  | _, _ => none

theorem one_lt {e k n q : Nat} (he : e < n) (hq : q < k) : e * k + q < n * k := by
  have : (e + 1) * k ≤ n * k := Nat.mul_le_mul_right k he
  rw [Nat.add_mul] at this; omega

theorem evE_alloc (hl : LayOk P lay) {op : Oper} {T d : Nat} (ho : op.op = .alloc T) (hd : op.dst = some d) {A' : St} {φ : Prop} (he : evE lay A op = some (A', φ)) : OpStep P op A A' := by
  intro o h tm w hs
  simp only [evE, ho, hd] at he
  split at he
  · rename_i r hT hlt hf
    simp only [Option.some.injEq, Prod.mk.injEq] at he
    obtain ⟨rfl, rfl⟩ := he
    have hlt : d < A.n := by simpa [Nat.blt, Nat.succ_le_iff] using hlt
    obtain ⟨z, hz, hzc, hcells⟩ := zero_cells (o := o) (w := w) hl hT
    have hone := (hl _ _ hT).one
    have hc : CellsE o h w z.cells (zE r.zero) := by
      rw [zE_eq]
      refine ⟨by rw [hcells.1]; simp, fun q x hq => ?_⟩
      rw [List.getElem?_map] at hq
      cases hzq : r.zero[q]? with
      | none => simp [hzq] at hq
      | some u =>
        simp [hzq] at hq
        subst hq
        rw [← hzc] at hzq
        have hu : u ∈ r.zero := by rw [← hzc]; exact List.mem_of_getElem? hzq
        exact ⟨u, by simpa using hzq, hone u hu, rfl, hone u hu⟩
    obtain ⟨o', h', hs', hx⟩ := Sat.newBox hs hlt hf (T := T) hc (by rw [zE_eq]; clear hc hcells hzc hone hT; induction r.zero with
      | nil => rfl
      | cons v l ih => simp [menEs, EV.men, ih])
    refine ⟨_, .pointer (some ⟨w.heap.size, 0, none⟩), _, o', h', ?_, .inl rfl, ?_, hx⟩
    · simp only [execOp, ho]
      exact value_of (by simp [Instr.alloc, hz, newVar, newRow])
    · simpa only [Act.put, hd] using hs'
  · cases he

theorem evE_box (hl : LayOk P lay) {op : Oper} {T d : Nat} {x : Operand} (ho : op.op = .box T x) (hd : op.dst = some d) {A' : St} {φ : Prop} (he : evE lay A op = some (A', φ)) (hφ : φ) : OpStep P op A A' := by
  intro o h tm w hs
  simp only [evE, ho, hd] at he
  split at he
  · rename_i cs p hp hlt hf
    split at he
    · rename_i hm
      simp only [Option.some.injEq, Prod.mk.injEq] at he
      obtain ⟨rfl, rfl⟩ := he
      have hlt : d < A.n := by simpa [Nat.blt, Nat.succ_le_iff] using hlt
      obtain ⟨o', h', hs', hx⟩ := Sat.newBox hs hlt hf (T := T) (partE_ok hs hp hφ) hm
      refine ⟨_, .pointer (some ⟨w.heap.size, 0, none⟩), _, o', h', ?_, .inl rfl, ?_, hx⟩
      · simp only [execOp, ho]
        exact value_of (by simp [Instr.box, newVar, newRow])
      · simpa only [Act.put, hd] using hs'
    · cases he
  · cases he

theorem evE_build (hl : LayOk P lay) {op : Oper} {T len d : Nat} {ps : Array (Nat × Operand)} (ho : op.op = .buildSlice T len ps) (hd : op.dst = some d) {A' : St} {φ : Prop} (he : evE lay A op = some (A', φ)) (hφ : φ) : OpStep P op A A' := by
  intro o h tm w hs
  simp only [evE, ho, hd] at he
  split at he
  · rename_i sz ag E es by' zz hT hlt hf
    split at he
    · rename_i rE hE hble
      split at he
      · rename_i cs p hfill
        have hlt : d < A.n := by simpa [Nat.blt, Nat.succ_le_iff] using hlt
        obtain ⟨hu, hes, i0, hinfo, hisz, _⟩ := sl_elem hl hT
        obtain ⟨iE, zE', hiE, hszE, hzE, hzcE, _, _⟩ := (hl _ _ hE).info
        rw [hinfo] at hiE
        cases hiE
        have hlenE : rE.zero.length = es := by rw [(hl _ _ hE).len, ← hszE, hisz]
        have hp : p := by
          split at he
          · split at he
            · simp only [Option.some.injEq, Prod.mk.injEq] at he; exact he.2 ▸ hφ
            · cases he
          · simp only [Option.some.injEq, Prod.mk.injEq] at he; exact he.2 ▸ hφ
        have hinit := zero_init (o := o) (w := w) (E := E) hl hzcE (hl _ _ hE).one len es hlenE
        obtain ⟨vs', hv', hc'⟩ := fillC_ok hs (place' := fun i => some (i * es, es)) (fun i x hi => hi) hfill hp hinit
        have hle : len * es ≤ 16777216 := by simpa using hble
        have hsize : vs'.size = len * es := by
          have hlen0 := hc'.1
          have key : ∀ (parts : List (Nat × Operand)) (cs0 cs1 : List CV) (p : Prop), fillC A (fun i => some (i * es, es)) cs0 parts = some (cs1, p) → cs1.length = cs0.length := by
            intro parts
            induction parts with
            | nil => intro cs0 cs1 p hf; simp [fillC] at hf; rw [hf.1]
            | cons a parts ih =>
              intro cs0 cs1 p hf
              obtain ⟨i, x⟩ := a
              simp only [fillC] at hf
              split at hf
              · split at hf
                · split at hf
                  · rename_i cs2 q hrec
                    simp only [Option.some.injEq, Prod.mk.injEq] at hf
                    obtain ⟨rfl, _⟩ := hf
                    rw [ih _ _ _ hrec]
                    have hsets : ∀ (xs l : List CV) (n : Nat), (setsN l n xs).length = l.length := by
                      intro xs
                      induction xs with
                      | nil => intro l n; rfl
                      | cons y ys ih2 => intro l n; simp only [setsN]; rw [ih2, setN_eq]; simp
                    exact hsets _ _ _
                  · cases hf
                · cases hf
              · cases hf
          rw [hlen0, key _ _ _ _ hfill, repZ_length, List.length_map, hlenE]
        have hrun : (Instr.buildSlice T len (ps.map fun (i, x) => (i, evl tm x))).run P w = .ok (.slice (some ⟨w.heap.size, 0, none⟩) len len) (w.alloc (.cells vs' E)) := by
          have e0 : (ps.map fun (i, x) => (i, evl tm x)).toList = ps.toList.map fun (i, x) => (i, evl tm x) := by simp
          have e1 : (sizeOf E).run P w = .ok es w := by simp [sizeOf, typeInfo, hinfo, hisz]
          have e2 : (zeroValue E).run P w = .ok zE' w := by simp [zeroValue, typeInfo, hinfo, hzE]
          have e3 : ¬ len * es > 2 ^ 24 := by omega
          by_cases hz : len * es = 0
          · have hv0 : Instr.fill (fun i => some (i * es, es)) ((Array.range (len * es)).map ((#[] : Array Value)[· % (#[] : Array Value).size]!)) (ps.toList.map fun (i, x) => (i, evl tm x)) = some vs' := by
              have hm : ∀ g : Nat → Value, (Array.range 0).map g = #[] := fun g => by simp
              rw [← hv', hz, hm, hm]
            simp only [Instr.buildSlice, Sem.run_bind, run_underlying hu, Result.andThen_ok, e1, if_neg e3, if_pos hz, Sem.run_pure, e0, hv0, newRow, run_newObj]
            rfl
          · simp only [Instr.buildSlice, Sem.run_bind, run_underlying hu, Result.andThen_ok, e1, if_neg e3, if_neg hz, e2, Sem.run_pure, e0, hv', newRow, run_newObj]
            rfl
        have hnm : len ≤ maxLen := by
          have : len ≤ len * es := Nat.le_mul_of_pos_right len (Nat.pos_of_ne_zero hes)
          simp only [maxLen]; omega
        have fin : ∀ x : CV, (∃ f, x = .sl len es f ∧ ∀ e q, e < len → q < es → ∃ u, vs'[e * es + q]? = some u ∧ RepV o w (f e q) u) → A' = ⟨A.n, (d, .e (.r d)) :: A.sl, (d, .own E x) :: A.rs⟩ →
            ∃ x v w' o' h', (execOp (evl tm) op).run P w = .ok x w' ∧ (x = .value v ∨ (x = .skip ∧ v = undef)) ∧ Sat o' h' A' ((⟨tm, []⟩ : Act).put op.dst v).tmps w' ∧ Ext o w o' w' := by
          rintro x ⟨f, rfl, hf'⟩ rfl
          obtain ⟨o', h', hs', hx⟩ := Sat.newRow hs hlt hf (E := E) (Nat.le_refl len) hnm hsize hf'
          refine ⟨_, .slice (some ⟨w.heap.size, 0, none⟩) len len, _, o', h', ?_, .inl rfl, ?_, hx⟩
          · simp only [execOp, ho]
            exact value_of hrun
          · simpa only [Act.put, hd] using hs'
        split at he
        · rename_i xs hes1 ha
          have hes1 := Nat.eq_of_beq_eq_true hes1
          subst hes1
          split at he
          · rename_i hb
            simp only [Option.some.injEq, Prod.mk.injEq] at he
            obtain ⟨rfl, _⟩ := he
            have hb := Nat.eq_of_beq_eq_true hb
            have hcs := asInts_ok ha
            subst hb
            refine fin (ints xs) ⟨_, rfl, fun e q he hq => ?_⟩ rfl
            have hq0 : q = 0 := by omega
            subst hq0
            have : cs[e * 1 + 0]? = some (.lit (.int .i64 (xs.getD e 0))) := by
              rw [hcs, List.getElem?_map]; simp [List.getElem?_eq_getElem he, List.getD]
            exact hc'.2 _ _ this
          · cases he
        · simp only [Option.some.injEq, Prod.mk.injEq] at he
          obtain ⟨rfl, _⟩ := he
          refine fin (rowsC es len cs) ⟨_, rfl, fun e q he hq => ?_⟩ rfl
          have hlt' : e * es + q < cs.length := by rw [← hc'.1, hsize]; exact one_lt he hq
          refine hc'.2 _ _ ?_
          rw [nthD_eq, List.getElem?_eq_getElem hlt']; simp [List.getD, List.getElem?_eq_getElem hlt']
      · cases he
    · cases he
  · cases he

theorem evE_make (hl : LayOk P lay) {op : Oper} {T d : Nat} {ln cp : Operand} (ho : op.op = .makeSlice T ln cp) (hd : op.dst = some d) {A' : St} {φ : Prop} (he : evE lay A op = some (A', φ)) (hφ : φ) : OpStep P op A A' := by
  intro o h tm w hs
  simp only [evE, ho, hd] at he
  split at he
  · rename_i sz ag E es bytes zz hT hlt hf
    split at he
    · rename_i rE k l p k' c q hE hln hcp
      simp only [Option.some.injEq, Prod.mk.injEq] at he
      obtain ⟨rfl, rfl⟩ := he
      obtain ⟨hp, hq, h0, h1, h2, h3⟩ := hφ
      have hlt : d < A.n := by simpa [Nat.blt, Nat.succ_le_iff] using hlt
      obtain ⟨hu, hes, i0, hinfo, hisz, hiby⟩ := sl_elem hl hT
      obtain ⟨iE, zv, hiE, hszE, hzE, hzcE, _, _⟩ := (hl _ _ hE).info
      rw [hinfo] at hiE
      cases hiE
      have hone := (hl _ _ hE).one
      have hlenE : rE.zero.length = es := by rw [(hl _ _ hE).len, ← hszE, hisz]
      have hel : evl tm ln = .int k l := (litOf_ok hs hln hp).1
      have hec : evl tm cp = .int k' c := (litOf_ok hs hcp hq).1
      have hinit := zero_init (o := o) (w := w) (E := E) hl hzcE hone c.toNat es hlenE
      have hsize : ((Array.range (c.toNat * es)).map (zv.cells[· % zv.cells.size]!)).size = c.toNat * es := by simp
      have hget : ∀ e q, e < l.toNat → q < es → ∃ u, ((Array.range (c.toNat * es)).map (zv.cells[· % zv.cells.size]!))[e * es + q]? = some u ∧ rE.zero[q]? = some u ∧ u.oneCell' = true := by
        intro e q he hq
        have hlt2 : e * es + q < c.toNat * es := one_lt (by omega) hq
        obtain ⟨u0, hu0⟩ : ∃ u, rE.zero[q]? = some u := ⟨_, List.getElem?_eq_getElem (by omega)⟩
        have hmod : (e * es + q) % es = q := by rw [Nat.add_comm, Nat.add_mul_mod_self_right]; exact Nat.mod_eq_of_lt hq
        have hx : (repZ (rE.zero.map .lit) c.toNat)[e * es + q]? = some (.lit u0) := by
          rw [repZ_get _ _ _ (by rw [List.length_map, hlenE]; exact hlt2), List.length_map, hlenE, hmod, List.getElem?_map, hu0]; rfl
        obtain ⟨u, hu, hr⟩ := hinit.2 _ _ hx
        obtain ⟨rfl, hr2⟩ := hr
        exact ⟨_, hu, hu0, hr2⟩
      have hrun : (Instr.makeSlice T (evl tm ln) (evl tm cp)).run P w = .ok (.slice (some ⟨w.heap.size, 0, none⟩) l.toNat c.toNat) (w.alloc (.cells ((Array.range (c.toNat * es)).map (zv.cells[· % zv.cells.size]!)) E)) := by
        have e1 : (sizeOf E).run P w = .ok es w := by simp [sizeOf, typeInfo, hinfo, hisz]
        have e2 : (zeroValue E).run P w = .ok zv w := by simp [zeroValue, typeInfo, hinfo, hzE]
        have e3 : (typeInfo E).run P w = .ok i0 w := by simp [typeInfo, hinfo]
        have w1 : IntKind.i64.wrap l = l := IntWalk.i64_in l (by omega)
        have w2 : IntKind.i64.wrap c = c := IntWalk.i64_in c (by omega)
        have e4 : (asInt (evl tm ln)).run P w = .ok l w := by rw [hel]; rfl
        have e5 : (asInt (evl tm cp)).run P w = .ok c w := by rw [hec]; rfl
        have t1 : (decide (c < 0) || decide ((i0.bytes : Int) * c > 2 ^ 48)) = false := by
          have : (i0.bytes : Int) * c ≤ 140737488355328 := by rw [hiby, Int.mul_comm]; exact h2
          simp; omega
        have t2 : (decide (l < 0)) = false := by simp; omega
        have t3 : (decide (l > c)) = false := by simp; omega
        by_cases hz : c.toNat * es = 0
        · simp only [Instr.makeSlice, Sem.run_bind, run_underlying hu, Result.andThen_ok, e1, e3, e4, e5, w1, w2, t1, t2, t3, Bool.or_self, Bool.false_eq_true, if_false, run_askRoom, if_pos hz, Sem.run_pure, newRow, run_newObj]
          have hm : ∀ g : Nat → Value, (Array.range 0).map g = #[] := fun g => by simp
          rw [hz, hm, hm]
          rfl
        · simp only [Instr.makeSlice, Sem.run_bind, run_underlying hu, Result.andThen_ok, e1, e2, e3, e4, e5, w1, w2, t1, t2, t3, Bool.or_self, Bool.false_eq_true, if_false, run_askRoom, if_neg hz, Sem.run_pure, newRow, run_newObj]
          rfl
      have hnm : c.toNat ≤ maxLen := by simp only [maxLen]; omega
      have fin : ∀ x : CV, (∃ f, x = .sl l.toNat es f ∧ ∀ e q, e < l.toNat → q < es → ∃ u, rE.zero[q]? = some u ∧ f e q = .lit u) →
          ∃ x' v w' o' h', (execOp (evl tm) op).run P w = .ok x' w' ∧ (x' = .value v ∨ (x' = .skip ∧ v = undef)) ∧ Sat o' h' ⟨A.n, (d, .e (.r d)) :: A.sl, (d, .own E x) :: A.rs⟩ ((⟨tm, []⟩ : Act).put op.dst v).tmps w' ∧ Ext o w o' w' := by
        rintro x ⟨f, rfl, hf'⟩
        obtain ⟨o', h', hs', hx⟩ := Sat.newRow hs hlt hf (E := E) (f := f) (show l.toNat ≤ c.toNat by omega) hnm hsize (fun e q he hq => by
          obtain ⟨u, hu1, hu2, hu3⟩ := hget e q he hq
          obtain ⟨u', hu', hfe⟩ := hf' e q he hq
          rw [hu2] at hu'
          cases hu'
          exact ⟨u, hu1, by rw [hfe]; exact ⟨rfl, hu3⟩⟩)
        refine ⟨_, .slice (some ⟨w.heap.size, 0, none⟩) l.toNat c.toNat, _, o', h', ?_, .inl rfl, ?_, hx⟩
        · simp only [execOp, ho]
          exact value_of hrun
        · simpa only [Act.put, hd] using hs'
      split
      · rename_i hz
        have : es = 1 := by rw [← hlenE, hz]; rfl
        subst this
        refine fin (ints (List.replicate l.toNat 0)) ⟨fun _ _ => .lit (.int .i64 0), ?_, fun e q he hq => ?_⟩
        · simp only [ints, List.length_replicate]
          congr 1
          funext e _
          simp [List.getD, List.getElem?_replicate]
          split <;> rfl
        · have : q = 0 := by omega
          subst this; exact ⟨_, by rw [hz]; rfl, rfl⟩
      · rename_i hz
        have : es = 1 := by rw [← hlenE, hz]; rfl
        subst this
        refine fin (bools (List.replicate l.toNat false)) ⟨fun _ _ => .lit (.bool false), ?_, fun e q he hq => ?_⟩
        · simp only [bools, List.length_replicate]
          congr 1
          funext e _
          simp [List.getD, List.getElem?_replicate]
          split <;> rfl
        · have : q = 0 := by omega
          subst this; exact ⟨_, by rw [hz]; rfl, rfl⟩
      · refine fin _ ⟨_, rfl, fun e q he hq => ⟨rE.zero[q]'(by omega), List.getElem?_eq_getElem (by omega), ?_⟩⟩
        rw [nthD_eq, List.getD, List.getElem?_eq_getElem (by omega)]; rfl
    · cases he
  · cases he
end

end Go.Sy

/-
  SYMBOLIC STATES, PART J: stores, append, maps used as sets.
-/
namespace Go.Sy
variable [Drw]

def catV : CV → CV → CV
  | .sl n k f, .sl m _ g => .sl (n + m) k (fun e q => bif Nat.blt e n then f e q else g (e - n) q)
  | x, _ => x
def updV : CV → Nat → Nat → List CV → CV
  | .sl n k f, e, q, xs => .sl n k (fun e' q' => bif Nat.beq e' e && (Nat.ble q q' && Nat.blt (q' - q) xs.length) then nthD (.lit undef) xs (q' - q) else f e' q')
  | x, _, _, _ => x
def setsE : List EV → Nat → List EV → List EV
  | l, _, [] => l
  | l, n, x :: xs => setsE (setN l n x) (n + 1) xs

theorem setsE_length : ∀ (xs l : List EV) (n : Nat), (setsE l n xs).length = l.length
  | [], l, n => rfl
  | x :: xs, l, n => by simp [setsE, setsE_length xs, setN_eq]
theorem setsE_get : ∀ (xs l : List EV) (n j : Nat), n + xs.length ≤ l.length → (setsE l n xs)[j]? = if n ≤ j ∧ j < n + xs.length then xs[j - n]? else l[j]?
  | [], l, n, j, _ => by simp [setsE]; intro h1 h2; omega
  | x :: xs, l, n, j, hle => by
    simp only [setsE]
    rw [setsE_get xs (setN l n x) (n + 1) j (by simp [setN_eq] at hle ⊢; omega), setN_eq]
    simp only [List.length_cons] at hle ⊢
    by_cases h1 : n + 1 ≤ j ∧ j < n + 1 + xs.length
    · rw [if_pos h1, if_pos (by omega), show j - n = (j - (n + 1)) + 1 by omega, List.getElem?_cons_succ]
    · rw [if_neg h1, List.getElem?_set]
      by_cases h2 : n = j
      · subst h2
        rw [if_pos rfl, if_pos (by omega), if_pos (by omega)]; simp
      · rw [if_neg h2, if_neg (by omega)]

theorem splice_get (cur us : List Value) (n j : Nat) (hle : n + us.length ≤ cur.length) :
    (cur.take n ++ us ++ cur.drop (n + us.length))[j]? = if n ≤ j ∧ j < n + us.length then us[j - n]? else cur[j]? := by
  have hl : (cur.take n).length = n := by rw [List.length_take]; omega
  rw [List.append_assoc]
  by_cases h1 : j < n
  · rw [List.getElem?_append_left (by omega), List.getElem?_take, if_pos h1, if_neg (by omega)]
  · rw [List.getElem?_append_right (by omega), hl]
    by_cases h2 : j < n + us.length
    · rw [List.getElem?_append_left (by omega), if_pos (by omega)]
    · rw [List.getElem?_append_right (by omega), List.getElem?_drop, if_neg (by omega)]
      congr 1; omega

section
variable {P : Program} {lay : Lay} {o o' : Nat → Tag} {h h' : Nat → Value} {A : St} {tm : Array Value} {w w' : World}

def evS (lay : Lay) (A : St) (op : Oper) : Option (St × Prop) :=
  match op.op, op.dst with
  | .store T a x, none => match lk lay T, rd A a with
    | some r, some (.r i, p) => match lk A.rs i, partE A x with
      | some (.box T' cs bk), some (xs, p') => match Nat.beq xs.length r.size, Nat.ble xs.length cs.length with
        | true, true => some (⟨A.n, A.sl, (i, .box T' (setsE cs 0 xs) bk) :: A.rs⟩, p ∧ p')
        | _, _ => none
      | _, _ => none
    | some r, some (.pt i k e q, p) => match lk A.rs i with
      | some (.box T' cs bk) => match partE A x with
        | some (xs, p') => match Nat.beq xs.length r.size, Nat.ble (e * k + q + xs.length) cs.length with
          | true, true => some (⟨A.n, A.sl, (i, .box T' (setsE cs (e * k + q) xs) bk) :: A.rs⟩, p ∧ p')
          | _, _ => none
        | none => none
      | some (.own E X) => match X, partC A x with
        | .sl n k' f, some (xs, p') => match Nat.beq k k', Nat.beq xs.length r.size, Nat.ble (q + xs.length) k' with
          | true, true, true => some (⟨A.n, A.sl, (i, .own E (updV X e q xs)) :: A.rs⟩, p ∧ p' ∧ e < n)
          | _, _, _ => none
        | _, _ => none
      | _ => none
    | _, _ => none
  | _, _ => none

theorem Sat.setRow (hs : Sat o h A tm w) {i b T : Nat} {cur cur' : Array Value} {r : Res} (hb : w.heap[b]? = some (.cells cur T (0, 0))) (ht : o b = .hd i)
    (hr : Keep o w o (w.setRow b cur') → ResOk o h (w.setRow b cur') i r) : Sat o h ⟨A.n, A.sl, (i, r) :: A.rs⟩ tm (w.setRow b cur') ∧ Ext o w o (w.setRow b cur') := by
  have hoth : ∀ b', b' ≠ b → (w.setRow b cur').heap[b']? = w.heap[b']? := fun b' hne => setRow_other w b b' cur' hne
  have hc : Chg o h w o h (w.setRow b cur') (fun j => j = i) A := by
    refine ⟨fun b' hb' => ⟨hb', hoth b' ?_⟩, fun j b' hj hb' => ⟨hb', hoth b' ?_⟩, fun j hj => absurd rfl hj⟩
    · rintro rfl; rw [ht] at hb'; cases hb'
    · rintro rfl; rw [ht] at hb'; cases hb'; exact hj rfl
  refine ⟨⟨hs.size, fun b' => by rw [size_setRow]; exact hs.tags b', fun s x hl => hc.slot hs s x hl, fun j r' hl => ?_⟩, ⟨by simp, rfl, rfl, rfl, Nat.le_refl _, fun b' hb' _ => ⟨hb', hoth b' ?_⟩, fun b' hb' _ => ⟨hb', hoth b' ?_⟩⟩⟩
  · rw [lk_cons] at hl
    split at hl
    · rename_i e; subst e; cases hl; exact hr hc.keep
    · rename_i hne; exact hc.resOk hs j r' (fun e => hne e.symm) hl
  · rintro rfl; rw [ht] at hb'; cases hb'
  · rintro rfl; rw [ht] at hb'; cases hb'

theorem run_storeAt (hl : LayOk P lay) {T : Nat} {r : TRow} (hT : lk lay T = some r) {b n T' : Nat} {cur : Array Value} (hb : w.heap[b]? = some (.cells cur T' (0, 0))) {v : Value}
    (hsz : v.cells.size = r.size) (hle : n + v.cells.size ≤ cur.size) (hone : ∀ u ∈ v.cells.toList, u.oneCell' = true) :
    (Instr.storeAt T (.pointer (some ⟨b, n, none⟩)) v).run P w = .ok () (w.setRow b (cur.toList.take n ++ v.cells.toList ++ cur.toList.drop (n + v.cells.toList.length)).toArray) := by
  have h1 := lay_size (w := w) hl hT
  have h2 := run_storeCells_at P b n T' v.cells.toList 0 cur w hb (by simpa using hle) hone
  simp only [Nat.add_zero] at h2
  simp only [Instr.storeAt, Instr.sureAddr, Sem.run_bind, Sem.run_pure, Result.andThen_ok, storeVar, h1, hsz, ne_eq, not_true, if_false]
  exact h2

theorem box_store (hs : Sat o h A tm w) {i T' n : Nat} {cs xs : List EV} {v : Value} {bk : Option Nat} (hr : lk A.rs i = some (.box T' cs bk)) (hx : CellsE o h w v.cells xs) (hle : n + xs.length ≤ cs.length) :
    ∃ b cur, h i = .pointer (some ⟨b, 0, none⟩) ∧ w.heap[b]? = some (.cells cur T' (0, 0)) ∧ n + v.cells.size ≤ cur.size ∧ (∀ u ∈ v.cells.toList, u.oneCell' = true) ∧
      (let w' := w.setRow b (cur.toList.take n ++ v.cells.toList ++ cur.toList.drop (n + v.cells.toList.length)).toArray
       Sat o h ⟨A.n, A.sl, (i, .box T' (setsE cs n xs) bk) :: A.rs⟩ tm w' ∧ Ext o w o w') := by
  obtain ⟨b, cur, h0, h1, h2, h3, h4, h5⟩ := hs.res i _ hr
  have hlen : v.cells.toList.length = xs.length := by rw [Array.length_toList]; exact hx.1
  refine ⟨b, cur, h1, h2, by rw [hx.1, h4]; exact hle, fun u hu => ?_, ?_⟩
  · obtain ⟨j, hj⟩ := List.getElem?_of_mem hu
    have hjx : j < xs.length := by rw [← hlen]; exact (List.getElem?_eq_some_iff.1 hj).1
    obtain ⟨u', hu', hone, _⟩ := hx.2 j _ (List.getElem?_eq_getElem hjx)
    have : v.cells[j]? = some u := by simpa using hj
    rw [this] at hu'; cases hu'; exact hone
  · have hcl : cur.toList.length = cs.length := by rw [Array.length_toList]; exact h4
    have hget : ∀ j, (cur.toList.take n ++ v.cells.toList ++ cur.toList.drop (n + v.cells.toList.length))[j]? = if n ≤ j ∧ j < n + xs.length then v.cells.toList[j - n]? else cur.toList[j]? := fun j => by
      rw [splice_get _ _ _ _ (by rw [hlen, hcl]; exact hle), hlen]
    have hln : (cur.toList.take n ++ v.cells.toList ++ cur.toList.drop (n + v.cells.toList.length)).length = cs.length := by
      simp only [List.length_append, List.length_take, List.length_drop, hcl, hlen]; omega
    generalize (cur.toList.take n ++ v.cells.toList ++ cur.toList.drop (n + v.cells.toList.length)) = cur' at hget hln
    refine Sat.setRow hs h2 h3 fun hk => ?_
    refine ⟨b, _, h0, h1, setRow_heap w b cur _ T' _ h2, h3, ?_, fun j x hj => ?_⟩
    · rw [setsE_length]; simpa using hln
    · rw [setsE_get _ _ _ _ hle] at hj
      simp only [List.getElem?_toArray]
      rw [hget]
      split at hj
      · rename_i hc
        rw [if_pos hc]
        obtain ⟨u, hu, hone, he⟩ := hx.2 _ _ hj
        exact ⟨u, by simpa using hu, hone, he.keep hk⟩
      · rename_i hc
        rw [if_neg hc]
        obtain ⟨u, hu, hone, he⟩ := h5 _ _ hj
        exact ⟨u, by simpa using hu, hone, he.keep hk⟩

theorem evS_ok (hl : LayOk P lay) {op : Oper} {A' : St} {φ : Prop} (he : evS lay A op = some (A', φ)) (hφ : φ) : OpStep P op A A' := by
  intro o h tm w hs
  unfold evS at he
  split at he
  · rename_i T a x ho hd
    have fin : ∀ w', (Instr.storeAt T (evl tm a) (evl tm x)).run P w = .ok () w' → Sat o h A' tm w' ∧ Ext o w o w' →
        ∃ x v w' o' h', (execOp (evl tm) op).run P w = .ok x w' ∧ (x = .value v ∨ (x = .skip ∧ v = undef)) ∧ Sat o' h' A' ((⟨tm, []⟩ : Act).put op.dst v).tmps w' ∧ Ext o w o' w' := by
      intro w' hr hs'
      refine ⟨.skip, undef, w', o, h, ?_, .inr ⟨rfl, rfl⟩, ?_, hs'.2⟩
      · simp only [execOp, ho]; simp [hr]
      · simpa only [Act.put, hd] using hs'.1
    split at he
    · rename_i r i p hT ha
      split at he
      · rename_i T' cs bk xs p' hr hp
        split at he
        · rename_i hb1 hb2
          simp only [Option.some.injEq, Prod.mk.injEq] at he
          obtain ⟨rfl, rfl⟩ := he
          have hb1 := Nat.eq_of_beq_eq_true hb1
          have hb2 : xs.length ≤ cs.length := by simpa using hb2
          have hx := partE_ok hs hp hφ.2
          obtain ⟨b, cur, h1, h2, h3, h4, h5⟩ := box_store (n := 0) hs hr hx (by omega)
          have hav : evl tm a = h i := rd_ok hs ha hφ.1
          refine fin _ ?_ h5
          rw [hav, h1]
          exact run_storeAt hl hT h2 (by rw [hx.1, hb1]) h3 h4
        · cases he
      · cases he
    · rename_i r i k e q p hT ha
      split at he
      · rename_i T' cs bk hr
        split at he
        · rename_i xs p' hp
          split at he
          · rename_i hb1 hb2
            simp only [Option.some.injEq, Prod.mk.injEq] at he
            obtain ⟨rfl, rfl⟩ := he
            have hb1 := Nat.eq_of_beq_eq_true hb1
            have hb2 : e * k + q + xs.length ≤ cs.length := by simpa using hb2
            have hx := partE_ok hs hp hφ.2
            obtain ⟨b, cur, h1, h2, h3, h4, h5⟩ := box_store (n := e * k + q) hs hr hx hb2
            obtain ⟨b', hb', hav⟩ := rd_ok hs ha hφ.1
            rw [h1] at hb'
            cases hb'
            refine fin _ ?_ h5
            rw [hav]
            exact run_storeAt hl hT h2 (by rw [hx.1, hb1]) h3 h4
          · cases he
        · cases he
      · rename_i E X hr
        split at he
        · rename_i n k' f xs p' hp
          split at he
          · rename_i hk hb1 hb2
            simp only [Option.some.injEq, Prod.mk.injEq] at he
            obtain ⟨rfl, rfl⟩ := he
            have hk := Nat.eq_of_beq_eq_true hk
            subst hk
            have hb1 := Nat.eq_of_beq_eq_true hb1
            have hb2 : q + xs.length ≤ k := by simpa using hb2
            obtain ⟨hφ1, hφ2, hφ3⟩ := hφ
            obtain ⟨hx1, hx2⟩ := partC_ok hs hp hφ2
            obtain ⟨b', hb', hav⟩ := rd_ok hs ha hφ1
            obtain ⟨vs, hown, htag, hvs⟩ := hs.res i _ hr
            rcases hown.2 with ⟨_, h00⟩ | ⟨g, cap, cur, hg, _, hheap, hnc, hcm, hcs, htake⟩
            · omega
            · rw [hg] at hb'
              cases hb'
              have hlt : e * k + q + xs.length ≤ n * k := by
                have : (e + 1) * k ≤ n * k := Nat.mul_le_mul_right k hφ3
                rw [Nat.add_mul] at this; omega
              have hnk : n * k ≤ cap * k := Nat.mul_le_mul_right k hnc
              have hone : ∀ u ∈ (evl tm x).cells.toList, u.oneCell' = true := fun u hu => by
                obtain ⟨j, hj⟩ := List.getElem?_of_mem hu
                have hj' : (evl tm x).cells[j]? = some u := by simpa using hj
                have hjx : j < xs.length := by rw [← hx1]; exact (Array.getElem?_eq_some_iff.1 hj').1
                obtain ⟨u', hu', hr⟩ := hx2 j _ (List.getElem?_eq_getElem hjx)
                rw [hj'] at hu'; cases hu'; exact hr.one
              refine fin _ (by rw [hav]; exact run_storeAt hl hT hheap (by rw [hx1, hb1]) (by rw [hx1, hcs]; omega) hone) ?_
              have hlen : (evl tm x).cells.toList.length = xs.length := by rw [Array.length_toList, hx1]
              have hsp : e * k + q + (evl tm x).cells.toList.length ≤ cur.toList.length := by rw [hlen, Array.length_toList (xs := cur), hcs]; omega
              have hcl : cur.toList.length = cap * k := by rw [Array.length_toList]; exact hcs
              have hget : ∀ j, (cur.toList.take (e * k + q) ++ (evl tm x).cells.toList ++ cur.toList.drop (e * k + q + (evl tm x).cells.toList.length))[j]? = if e * k + q ≤ j ∧ j < e * k + q + xs.length then (evl tm x).cells.toList[j - (e * k + q)]? else cur.toList[j]? := fun j => by
                rw [splice_get _ _ _ _ hsp, hlen]
              have hlen' : (cur.toList.take (e * k + q) ++ (evl tm x).cells.toList ++ cur.toList.drop (e * k + q + (evl tm x).cells.toList.length)).length = cap * k := by
                simp only [List.length_append, List.length_take, List.length_drop, hcl, hlen]; omega
              generalize (cur.toList.take (e * k + q) ++ (evl tm x).cells.toList ++ cur.toList.drop (e * k + q + (evl tm x).cells.toList.length)) = cur' at hget hlen'
              refine Sat.setRow hs hheap (htag _ (by rw [hg]; rfl)) fun hkp => ?_
              refine ⟨cur'.take (n * k), ⟨by rw [List.length_take, hlen']; omega, .inr ⟨b', cap, cur'.toArray, hg, Nat.zero_le _, setRow_heap w b' cur _ E _ hheap, hnc, hcm, by simp [hlen'], by simp⟩⟩, htag, fun e' q' he' hq' => ?_⟩
              have hlt' := one_lt he' hq'
              rw [List.getElem?_take, if_pos hlt', hget]
              by_cases hc : e' = e ∧ q ≤ q' ∧ q' - q < xs.length
              · obtain ⟨rfl, hc1, hc2⟩ := hc
                have hbb : (Nat.beq e' e' && (Nat.ble q q' && Nat.blt (q' - q) xs.length)) = true := by
                  simp [Nat.blt, hc1, Nat.succ_le_iff, hc2]
                simp only [hbb, cond_true]
                rw [if_pos (by omega)]
                obtain ⟨u, hu, hr⟩ := hx2 (q' - q) _ (List.getElem?_eq_getElem hc2)
                refine ⟨u, ?_, ?_⟩
                · rw [← hu, show e' * k + q' - (e' * k + q) = q' - q by omega]; simp
                · rw [nthD_eq, List.getD, List.getElem?_eq_getElem hc2]; exact hr.keep hkp
              · have hbb : (Nat.beq e' e && (Nat.ble q q' && Nat.blt (q' - q) xs.length)) = false := by
                  rw [Bool.eq_false_iff]
                  intro ht
                  simp [Nat.blt, Nat.succ_le_iff] at ht
                  exact hc ⟨ht.1, ht.2.1, ht.2.2⟩
                simp only [hbb, cond_false]
                have hnot : ¬ (e * k + q ≤ e' * k + q' ∧ e' * k + q' < e * k + q + xs.length) := by
                  rintro ⟨c1, c2⟩
                  have hee : e' = e := by
                    rcases Nat.lt_trichotomy e' e with hlt3 | heq | hgt
                    · have := one_lt (k := k) hlt3 hq'
                      omega
                    · exact heq
                    · have : (e + 1) * k ≤ e' * k := Nat.mul_le_mul_right k hgt
                      rw [Nat.add_mul] at this; omega
                  subst hee
                  exact hc ⟨rfl, by omega, by omega⟩
                rw [if_neg hnot]
                obtain ⟨u, hu, hr⟩ := hvs e' q' he' hq'
                refine ⟨u, ?_, hr.keep hkp⟩
                rw [← htake, List.getElem?_take, if_pos hlt'] at hu
                exact hu
          · cases he
        · cases he
      · cases he
    · cases he
  · cases he
end

end Go.Sy
