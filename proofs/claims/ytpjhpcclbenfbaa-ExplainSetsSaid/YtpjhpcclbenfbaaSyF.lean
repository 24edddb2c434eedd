/-
  SYMBOLIC STATES, PART F: parts of values, slices, built values; one evaluator for all operations that only compute ('evP').
-/
import Derived.Test.YtpjhpcclbenfbaaSyE
set_option linter.unusedVariables false
set_option linter.unusedSimpArgs false
namespace Go.Sy

def dropN {α : Type} : Nat → List α → List α
  | 0, l => l
  | _ + 1, [] => []
  | n + 1, _ :: l => dropN n l
def takeN {α : Type} : Nat → List α → List α
  | 0, _ => []
  | _ + 1, [] => []
  | n + 1, x :: l => x :: takeN n l
theorem dropN_eq {α : Type} : ∀ (n : Nat) (l : List α), dropN n l = l.drop n
  | 0, l => rfl
  | n + 1, [] => rfl
  | n + 1, x :: l => by simp [dropN, dropN_eq n l]
theorem takeN_eq {α : Type} : ∀ (n : Nat) (l : List α), takeN n l = l.take n
  | 0, l => rfl
  | n + 1, [] => rfl
  | n + 1, x :: l => by simp [takeN, takeN_eq n l]

section
variable {P : Program} {lay : Lay} {o : Nat → Tag} {h : Nat → Value} {A : St} {tm : Array Value} {w : World}

/-! a field of a value -/
def evField (lay : Lay) (A : St) (T : TypeId) (x : Operand) (j : Nat) : Option (SV × Prop) :=
  match lk lay T with
  | some ⟨_, _, .st fs _, _⟩ => match nth fs j, rd A x with
    | some ⟨off, _, false⟩, some (.ag cs, p) => match nth cs off with
      | some c => some (.e (.c c), p)
      | none => none
    | some ⟨off, s, true⟩, some (.ag cs, p) => some (.e (.ag (takeN s (dropN off cs))), p)
    | _, _ => none
  | _ => none

theorem aggB_run {t : Nat} {i : TypeInfo} (hi : P.info? t = some i) (hu : ∃ d, P.underlying t = some d) : (isAgg t).run P w = .ok (aggB P t) w := by
  obtain ⟨d, hd⟩ := hu
  unfold aggB
  cases d <;> simp [isAgg, run_underlying hd, hd]

theorem evField_ok (hl : LayOk P lay) (hs : Sat o h A tm w) {T : TypeId} {x : Operand} {j : Nat} {sv : SV} {φ : Prop}
    (he : evField lay A T x j = some (sv, φ)) (hφ : φ) : Gives P o h tm w (Instr.field T (evl tm x) j) sv := by
  unfold evField at he
  split at he
  · rename_i sz ag fs qi z hT
    split at he
    · rename_i off s2 cs p hj hx
      split at he
      · rename_i c hn
        simp only [Option.some.injEq, Prod.mk.injEq] at he
        obtain ⟨rfl, rfl⟩ := he
        obtain ⟨gs, g, i, hu, hg, ho, hi, hsz, hne, ha, hund⟩ := st_field hl hT hj
        obtain ⟨vs, hv, hvs, hc⟩ := rd_ok hs hx hφ
        rw [nth_eq] at hn
        obtain ⟨u, hu', hr⟩ := hc off c hn
        rw [hv]
        have hagg := aggB_run (w := w) hi hund
        simp only at ho ha
        exact ⟨u, by simp [Instr.field, run_underlying hu, hg, asAgg, part, hagg, ← ha, ho, hu'], hr⟩
      · cases he
    · rename_i off s2 cs p hj hx
      simp only [Option.some.injEq, Prod.mk.injEq] at he
      obtain ⟨rfl, rfl⟩ := he
      obtain ⟨gs, g, i, hu, hg, ho, hi, hsz, hne, ha, hund⟩ := st_field hl hT hj
      obtain ⟨vs, hv, hvs, hc⟩ := rd_ok hs hx hφ
      rw [hv]
      have hagg := aggB_run (w := w) hi hund
      simp only at ho ha hsz
      refine ⟨.agg (vs.extract off (off + s2)), by simp [Instr.field, run_underlying hu, hg, asAgg, part, hagg, ← ha, ho, sizeOf, typeInfo, hi, hsz], _, rfl, ?_, ?_⟩
      · simp [takeN_eq, dropN_eq, hvs]; omega
      · intro q x hq
        rw [takeN_eq, dropN_eq, List.getElem?_take] at hq
        split at hq
        · rename_i hlt
          rw [List.getElem?_drop] at hq
          obtain ⟨u, hu', hr⟩ := hc _ _ hq
          refine ⟨u, ?_, hr⟩
          rw [Array.getElem?_extract]
          have : q < min (off + s2) vs.size - off := by
            have := (Array.getElem?_eq_some_iff.1 hu').1
            omega
          simp [this, hu']
        · cases hq
    · cases he
  · cases he

/-! a byte of a string -/
def evIndex (lay : Lay) (A : St) (T : TypeId) (x ix : Operand) : Option (SV × Prop) :=
  match lk lay T, litOf A x, litOf A ix with
  | some ⟨_, _, .str, _⟩, some (.string s, p), some (.int _ z, q) => some (.e (.c (.lit (.int .u8 ((s.data.getD z.toNat 0).toNat : Int)))), p ∧ q ∧ 0 ≤ z ∧ z < (s.size : Int))
  | _, _, _ => none

theorem evIndex_ok (hl : LayOk P lay) (hs : Sat o h A tm w) {T : TypeId} {x ix : Operand} {sv : SV} {φ : Prop} (he : evIndex lay A T x ix = some (sv, φ)) (hφ : φ) :
    Gives P o h tm w (Instr.index T (evl tm x) (evl tm ix)) sv := by
  unfold evIndex at he
  split at he
  · rename_i sz ag zz s p k z q hT hx hi
    simp only [Option.some.injEq, Prod.mk.injEq] at he
    obtain ⟨rfl, rfl⟩ := he
    obtain ⟨hp, hq, h0, h1⟩ := hφ
    rw [(litOf_ok hs hx hp).1, (litOf_ok hs hi hq).1]
    obtain ⟨d, hd, ht⟩ := (hl _ _ hT).td
    simp only [tdB, Bool.and_eq_true] at ht
    cases d <;> simp at ht
    have hlt : z.toNat < s.size := by omega
    have hlt' : z.toNat < s.data.size := hlt
    have e1 : s[z.toNat]? = some s[z.toNat] := getElem?_pos s _ hlt
    refine ⟨_, ?_, rfl, rfl⟩
    simp [Instr.index, asIntOf, run_underlying hd, h0, e1]
    have : s.data[z.toNat]?.getD 0 = s[z.toNat] := by
      rw [Array.getElem?_eq_getElem hlt']; rfl
    rw [this]
  · cases he

/-! slices of strings and of slices -/
def bnd (A : St) (d : Int) : Option Operand → Option (Int × Prop)
  | none => some (d, True)
  | some x => match litOf A x with
    | some (.int _ z, p) => some (z, p)
    | _ => none

def evSlice (lay : Lay) (A : St) (T : TypeId) (x : Operand) (lo hi mx : Option Operand) : Option (SV × Prop) :=
  match mx, lk lay T, rd A x with
  | none, some ⟨_, _, .str, _⟩, some (.c (.lit (.string s)), p) => match bnd A 0 lo, bnd A s.size hi with
    | some (l, pl), some (g, pg) => some (.e (.c (.lit (.string (s.extract l.toNat g.toNat)))), p ∧ pl ∧ pg ∧ 0 ≤ l ∧ l ≤ g ∧ g ≤ (s.size : Int))
    | _, _ => none
  | none, some ⟨_, _, .sl _ es _, _⟩, some (.c (.sl n k f), p) => match Nat.beq k es, bnd A 0 lo, bnd A n hi with
    | true, some (l, pl), some (g, pg) => some (.e (.c (.sl (g.toNat - l.toNat) k (fun e q => f (e + l.toNat) q))), p ∧ pl ∧ pg ∧ 0 ≤ l ∧ l ≤ g ∧ g ≤ n)
    | _, _, _ => none
  | _, _, _ => none

theorem bnd_ok (hs : Sat o h A tm w) {d : Int} {x : Option Operand} {z : Int} {p : Prop} (hb : bnd A d x = some (z, p)) (hp : p) :
    (x = none ∧ z = d) ∨ ∃ y k, x = some y ∧ evl tm y = .int k z := by
  cases x with
  | none => simp [bnd] at hb; exact .inl ⟨rfl, hb.1.symm⟩
  | some y =>
    simp only [bnd] at hb
    split at hb
    · rename_i k z' p' hl
      simp only [Option.some.injEq, Prod.mk.injEq] at hb
      obtain ⟨rfl, rfl⟩ := hb
      exact .inr ⟨y, k, rfl, (litOf_ok hs hl hp).1⟩
    · cases hb

theorem run_sliceBounds (hs : Sat o h A tm w) (isS : Bool) {len cap : Nat} {lo hi : Option Operand} {l g : Int} {pl pg : Prop} (hbl : bnd A 0 lo = some (l, pl)) (hbg : bnd A len hi = some (g, pg)) (hpl : pl) (hpg : pg)
    (h0 : 0 ≤ l) (h1 : l ≤ g) (h2 : g ≤ cap) : (Instr.sliceBounds isS len cap (lo.map (evl tm)) (hi.map (evl tm)) none).run P w = .ok (l.toNat, g.toNat, cap) w := by
  rcases bnd_ok hs hbl hpl with ⟨rfl, rfl⟩ | ⟨y, k, rfl, hy⟩ <;> rcases bnd_ok hs hbg hpg with ⟨rfl, rfl⟩ | ⟨y', k', rfl, hy'⟩
  · simp [Instr.sliceBounds]
  · simp [Instr.sliceBounds, hy', Instr.sliceBound, asIntOf, show 0 ≤ g by omega, h2]
  · simp [Instr.sliceBounds, hy, Instr.sliceBound, asIntOf, h0, h1]
  · simp [Instr.sliceBounds, hy, hy', Instr.sliceBound, asIntOf, h0, h1, show 0 ≤ g by omega, h2, show max g 0 = g by omega, show ¬ g < l by omega]

theorem evSlice_ok (hl : LayOk P lay) (hs : Sat o h A tm w) {T : TypeId} {x : Operand} {lo hi mx : Option Operand} {sv : SV} {φ : Prop} (he : evSlice lay A T x lo hi mx = some (sv, φ)) (hφ : φ) :
    Gives P o h tm w (Instr.sliceAt T (evl tm x) (lo.map (evl tm)) (hi.map (evl tm)) (mx.map (evl tm))) sv := by
  unfold evSlice at he
  split at he
  · rename_i sz ag zz s p hT hx
    split at he
    · rename_i l pl g pg hbl hbg
      simp only [Option.some.injEq, Prod.mk.injEq] at he
      obtain ⟨rfl, rfl⟩ := he
      obtain ⟨hp, hpl, hpg, h0, h1, h2⟩ := hφ
      obtain ⟨d, hd, ht⟩ := (hl _ _ hT).td
      simp only [tdB, Bool.and_eq_true] at ht
      cases d <;> simp at ht
      have hv : evl tm x = .string s := (rd_ok hs hx hp).1
      rw [hv]
      have hb := run_sliceBounds (P := P) hs false hbl hbg hpl hpg h0 h1 h2
      exact ⟨_, by simp [Instr.sliceAt, Instr.slice, run_underlying hd, hb], rfl, rfl⟩
    · cases he
  · rename_i sz ag E es by' zz n k f p hT hx
    split at he
    · rename_i l pl g pg hk hbl hbg
      have hk := Nat.eq_of_beq_eq_true hk
      subst hk
      simp only [Option.some.injEq, Prod.mk.injEq] at he
      obtain ⟨rfl, rfl⟩ := he
      obtain ⟨hp, hpl, hpg, h0, h1, h2⟩ := hφ
      obtain ⟨hu, hes, i0, hinfo, hsz, _⟩ := sl_elem hl hT
      obtain ⟨a, cap, hv, hnc, hcm, hrow⟩ := rd_ok hs hx hp
      rw [hv]
      have hb := run_sliceBounds (P := P) (cap := cap) hs true hbl hbg hpl hpg h0 h1 (by omega)
      refine ⟨_, by simp [Instr.sliceAt, Instr.slice, run_underlying hu, hb, sizeOf, typeInfo, hinfo]; rfl, ?_⟩
      refine ⟨_, _, rfl, by omega, by omega, ?_⟩
      by_cases hz : g.toNat - l.toNat = 0
      · exact .inl hz
      · rcases hrow with hn | ⟨b, off, rfl, htag, hr⟩
        · omega
        · right
          have hne : ¬ cap = l.toNat := by omega
          refine ⟨b, off + l.toNat * k, ?_, htag, fun e q he hq => ?_⟩
          · simp [hne, addr_add, hsz]
          · obtain ⟨u, hu', hx'⟩ := hr (e + l.toNat) q (by omega) hq
            refine ⟨u, ?_, hx'⟩
            rw [← hu']
            congr 2
            rw [Nat.add_mul]
            omega
    · cases he
  · cases he

/-! built values -/
def CellsOk (o : Nat → Tag) (w : World) (vs : Array Value) (cs : List CV) : Prop := vs.size = cs.length ∧ ∀ (q : Nat) x, cs[q]? = some x → ∃ u, vs[q]? = some u ∧ RepV o w x u

def setN {α : Type} : List α → Nat → α → List α
  | [], _, _ => []
  | _ :: l, 0, x => x :: l
  | y :: l, n + 1, x => y :: setN l n x
theorem setN_eq {α : Type} : ∀ (l : List α) (n : Nat) (x : α), setN l n x = l.set n x
  | [], _, _ => rfl
  | _ :: _, 0, _ => rfl
  | y :: l, n + 1, x => by simp [setN, setN_eq l n x]
def setsN {α : Type} : List α → Nat → List α → List α
  | l, _, [] => l
  | l, n, x :: xs => setsN (setN l n x) (n + 1) xs

theorem CellsOk.set {vs : Array Value} {cs : List CV} (hc : CellsOk o w vs cs) {n : Nat} {u : Value} {x : CV} (hx : RepV o w x u) : CellsOk o w (vs.setIfInBounds n u) (setN cs n x) := by
  rw [setN_eq]
  refine ⟨by simp [hc.1], fun q y hq => ?_⟩
  rw [List.getElem?_set] at hq
  split at hq
  · rename_i e
    subst e
    split at hq
    · rename_i hlt
      cases hq
      exact ⟨u, by rw [Array.getElem?_setIfInBounds_self]; simp [hc.1, hlt], hx⟩
    · cases hq
  · rename_i hne
    obtain ⟨u', hu', hr⟩ := hc.2 q y hq
    exact ⟨u', by rw [Array.getElem?_setIfInBounds_ne hne]; exact hu', hr⟩

theorem CellsOk.sets : ∀ (us : List Value) (xs : List CV) {vs : Array Value} {cs : List CV} (n off : Nat), us.length = xs.length → (∀ (q : Nat) x, xs[q]? = some x → ∃ u, us[q]? = some u ∧ RepV o w x u) → CellsOk o w vs cs →
    CellsOk o w ((us.zipIdx n).foldl (fun cs (c, j) => cs.setIfInBounds (off + j) c) vs) (setsN cs (off + n) xs)
  | [], [], vs, cs, n, off, _, _, hc => hc
  | u :: us, x :: xs, vs, cs, n, off, hlen, hx, hc => by
    simp only [List.zipIdx_cons, List.foldl_cons, setsN]
    obtain ⟨u', hu', hr⟩ := hx 0 x rfl
    simp at hu'
    subst hu'
    exact CellsOk.sets us xs (n + 1) off (by simpa using hlen) (fun q y hq => by simpa using hx (q + 1) y (by simpa using hq)) (hc.set hr)
  | [], _ :: _, _, _, _, _, hlen, _, _ => by simp at hlen
  | _ :: _, [], _, _, _, _, hlen, _, _ => by simp at hlen

/-- the parts of a literal: where each goes, and its cells -/
def partC (A : St) (x : Operand) : Option (List CV × Prop) :=
  match rd A x with
  | some (.c y, p) => some ([y], p)
  | some (.ag cs, p) => some (cs, p)
  | _ => none

theorem partC_ok (hs : Sat o h A tm w) {x : Operand} {xs : List CV} {p : Prop} (hp : partC A x = some (xs, p)) (hφ : p) :
    (evl tm x).cells.size = xs.length ∧ ∀ (q : Nat) y, xs[q]? = some y → ∃ u, (evl tm x).cells[q]? = some u ∧ RepV o w y u := by
  unfold partC at hp
  split at hp
  · rename_i y p' hr
    simp only [Option.some.injEq, Prod.mk.injEq] at hp
    obtain ⟨rfl, rfl⟩ := hp
    have hv : RepV o w y (evl tm x) := rd_ok hs hr hφ
    have h1 := hv.one
    have hc : (evl tm x).cells = #[evl tm x] := by
      generalize evl tm x = v at h1
      cases v <;> first | rfl | simp [Value.oneCell'] at h1
    rw [hc]
    refine ⟨rfl, fun q y' hq => ?_⟩
    cases q with
    | zero => simp at hq; subst hq; exact ⟨_, rfl, hv⟩
    | succ q => simp at hq
  · rename_i cs p' hr
    simp only [Option.some.injEq, Prod.mk.injEq] at hp
    obtain ⟨rfl, rfl⟩ := hp
    obtain ⟨vs, hv, h1, h2⟩ := rd_ok hs hr hφ
    rw [hv]
    exact ⟨h1, h2⟩
  · cases hp

def fillC (A : St) (place : Nat → Option (Nat × Nat)) : List CV → List (Nat × Operand) → Option (List CV × Prop)
  | cs, [] => some (cs, True)
  | cs, (i, x) :: rest => match place i, partC A x with
    | some (off, s), some (xs, p) => match Nat.beq xs.length s, Nat.ble (off + xs.length) cs.length with
      | true, true => match fillC A place (setsN cs off xs) rest with
        | some (cs', q) => some (cs', p ∧ q)
        | none => none
      | _, _ => none
    | _, _ => none

theorem fill_cons {place : Nat → Option (Nat × Nat)} {vs : Array Value} {i off s : Nat} {v : Value} (hp : place i = some (off, s)) (h1 : v.cells.size = s) (h2 : off + v.cells.size ≤ vs.size) (rest : List (Nat × Value)) :
    Instr.fill place vs ((i, v) :: rest) = Instr.fill place ((v.cells.toList.zipIdx).foldl (fun cs (c, j) => cs.setIfInBounds (off + j) c) vs) rest := by
  simp only [Instr.fill, hp]
  rw [if_neg (by simp [h1]; omega)]
  congr 1
  rw [← Array.foldl_toList]
  simp

theorem fillC_ok (hs : Sat o h A tm w) {place place' : Nat → Option (Nat × Nat)} (hpl : ∀ i x, place i = some x → place' i = some x) : ∀ {parts : List (Nat × Operand)} {cs cs' : List CV} {vs : Array Value} {φ : Prop},
    fillC A place cs parts = some (cs', φ) → φ → CellsOk o w vs cs →
    ∃ vs', Instr.fill place' vs (parts.map fun (i, x) => (i, evl tm x)) = some vs' ∧ CellsOk o w vs' cs'
  | [], cs, cs', vs, φ, hf, _, hc => by
    simp only [fillC, Option.some.injEq, Prod.mk.injEq] at hf
    obtain ⟨rfl, rfl⟩ := hf
    exact ⟨vs, rfl, hc⟩
  | (i, x) :: rest, cs, cs', vs, φ, hf, hφ, hc => by
    simp only [fillC] at hf
    split at hf
    · rename_i off s xs p hpi hpx
      split at hf
      · rename_i hb1 hb2
        split at hf
        · rename_i cs2 q hrec
          simp only [Option.some.injEq, Prod.mk.injEq] at hf
          obtain ⟨rfl, rfl⟩ := hf
          obtain ⟨h1, h2⟩ := partC_ok hs hpx hφ.1
          have hb1 := Nat.eq_of_beq_eq_true hb1
          have hb2 : off + xs.length ≤ cs.length := by simpa using hb2
          have hstep := CellsOk.sets (evl tm x).cells.toList xs 0 off (by simpa using h1) (fun q y hq => by
            obtain ⟨u, hu, hr⟩ := h2 q y hq
            exact ⟨u, by simpa using hu, hr⟩) hc
          rw [Nat.add_zero] at hstep
          obtain ⟨vs', hv', hc'⟩ := fillC_ok hs hpl hrec hφ.2 hstep
          refine ⟨vs', ?_, hc'⟩
          rw [← hv']
          exact fill_cons (hpl _ _ hpi) (by rw [h1, hb1]) (by rw [hc.1, h1]; exact hb2) _
        · cases hf
      · cases hf
    · cases hf

def evBuild (lay : Lay) (A : St) (T : TypeId) (parts : Array (Nat × Operand)) : Option (SV × Prop) :=
  match lk lay T with
  | some ⟨_, _, .st fs _, z⟩ => match fillC A (fun i => match nth fs i with | some ⟨off, s, _⟩ => some (off, s) | none => none) (z.map .lit) parts.toList with
    | some (cs, p) => some (.e (.ag cs), p)
    | none => none
  | some ⟨_, _, .arr _ es _, z⟩ => match fillC A (fun i => some (i * es, es)) (z.map .lit) parts.toList with
    | some (cs, p) => some (.e (.ag cs), p)
    | none => none
  | _ => none

theorem zero_cells (hl : LayOk P lay) {T : Nat} {r : TRow} (hT : lk lay T = some r) : ∃ z, (zeroValue T).run P w = .ok z w ∧ z.cells.toList = r.zero ∧ CellsOk o w z.cells (r.zero.map .lit) := by
  obtain ⟨i, z, hi, hsz, hz, hzc, _, _⟩ := (hl _ _ hT).info
  have hone := (hl _ _ hT).one
  refine ⟨z, by simp [zeroValue, typeInfo, hi, hz], hzc, by rw [List.length_map, ← hzc]; simp, fun q x hq => ?_⟩
  rw [List.getElem?_map] at hq
  cases hzq : r.zero[q]? with
  | none => simp [hzq] at hq
  | some u =>
    simp [hzq] at hq
    subst hq
    refine ⟨u, ?_, rfl, hone u (List.mem_of_getElem? hzq)⟩
    rw [← hzc] at hzq
    simpa using hzq

theorem run_mapM_fields (gs : List Field) (f : Field → Nat × Nat) (hf : ∀ g ∈ gs, (do pure (g.offset, ← sizeOf g.type) : Sem (Nat × Nat)).run P w = .ok (f g) w) :
    (gs.mapM fun g => (do pure (g.offset, ← sizeOf g.type) : Sem (Nat × Nat))).run P w = .ok (gs.map f) w := by
  induction gs with
  | nil => rfl
  | cons g gs ih =>
    have h1 := hf g (by simp)
    have h2 := ih (fun g' hg => hf g' (by simp [hg]))
    simp only [List.mapM_cons, Sem.run_bind, h1, h2, Result.andThen_ok, Sem.run_pure, List.map_cons]

theorem st_fields (hl : LayOk P lay) {T sz : Nat} {ag : Bool} {z : List Value} {fs : List Fld} {qi : Bool} (hT : lk lay T = some ⟨sz, ag, .st fs qi, z⟩) :
    ∃ gs, P.underlying T = some (.struct gs) ∧ fldsB P gs.toList fs = true := by
  obtain ⟨d, hd, ht⟩ := (hl _ _ hT).td
  simp only [tdB, Bool.and_eq_true] at ht
  cases d <;> simp at ht
  exact ⟨_, hd, ht.2⟩

theorem fldsB_all : ∀ {gs : List Field} {fs : List Fld}, fldsB P gs fs = true → ∀ (j : Nat) (g : Field), gs[j]? = some g → ∃ f, fs[j]? = some f ∧ fldB P g f = true
  | [], [], _, _, _, h' => by simp at h'
  | g :: gs, f :: fs, hb, 0, g', h' => by
    simp only [fldsB, Bool.and_eq_true] at hb
    simp at h'; subst h'; exact ⟨f, rfl, hb.1⟩
  | g :: gs, f :: fs, hb, j + 1, g', h' => by
    simp only [fldsB, Bool.and_eq_true] at hb
    simpa using fldsB_all hb.2 j g' (by simpa using h')
  | [], _ :: _, hb, _, _, _ => by simp [fldsB] at hb
  | _ :: _, [], hb, _, _, _ => by simp [fldsB] at hb

theorem fldB_size {g : Field} {f : Fld} (hb : fldB P g f = true) : g.offset = f.off ∧ (sizeOf g.type).run P w = .ok f.size w := by
  simp only [fldB, Bool.and_eq_true, beq_iff_eq, bne_iff_ne, ne_eq] at hb
  obtain ⟨⟨⟨h1, h2⟩, h3⟩, h4⟩ := hb
  refine ⟨h1, ?_⟩
  cases hi : P.info? g.type with
  | none => simp [hi] at h2
  | some i => simp [hi] at h2; simp [sizeOf, typeInfo, hi, h2.1]

theorem evBuild_ok (hl : LayOk P lay) (hs : Sat o h A tm w) {T : TypeId} {parts : Array (Nat × Operand)} {sv : SV} {φ : Prop} (he : evBuild lay A T parts = some (sv, φ)) (hφ : φ) :
    Gives P o h tm w (Instr.build T (parts.map fun (i, x) => (i, evl tm x))) sv := by
  unfold evBuild at he
  split at he
  · rename_i sz ag fs qi z hT
    split at he
    · rename_i cs p hf
      simp only [Option.some.injEq, Prod.mk.injEq] at he
      obtain ⟨rfl, rfl⟩ := he
      obtain ⟨z', hz, hzc, hcells⟩ := zero_cells (o := o) (w := w) hl hT
      obtain ⟨gs, hu, hfl⟩ := st_fields hl hT
      have hM : (gs.mapM fun g => (do pure (g.offset, ← sizeOf g.type) : Sem (Nat × Nat))).run P w = .ok ((gs.toList.map fun g => (g.offset, ((P.info? g.type).map (·.size)).getD 0)).toArray) w := by
        have h1 := run_mapM_fields (P := P) (w := w) gs.toList (fun g => (g.offset, ((P.info? g.type).map (·.size)).getD 0)) (fun g hg => by
          obtain ⟨j, hj⟩ := List.getElem?_of_mem hg
          obtain ⟨f, hfj, hb⟩ := fldsB_all hfl j g hj
          simp only [fldB, Bool.and_eq_true] at hb
          cases hi : P.info? g.type with
          | none => simp [hi] at hb
          | some i => simp [sizeOf, typeInfo, hi])
        rw [Array.mapM_eq_mapM_toList]
        simp only [Sem.run_map, h1, Result.andThen_ok]
      obtain ⟨vs', hv', hc'⟩ := fillC_ok hs (place' := fun x => ((gs.toList.map fun g => (g.offset, ((P.info? g.type).map (·.size)).getD 0)).toArray)[x]?) (fun i x hi => by
        cases hn : nth fs i with
        | none => simp [hn] at hi
        | some f =>
          simp [hn] at hi
          subst hi
          obtain ⟨gs', g, i', hu', hg, ho, hi', hsz, _⟩ := st_field hl hT hn
          rw [hu] at hu'
          cases hu'
          have : gs.toList[i]? = some g := by simpa using hg
          simp [hg, ho, hi', hsz]) hf hφ hcells
      refine ⟨.agg vs', ?_, vs', rfl, hc'.1, hc'.2⟩
      have : (parts.map fun (i, x) => (i, evl tm x)).toList = parts.toList.map fun (i, x) => (i, evl tm x) := by simp
      simp only [Instr.build, Sem.run_bind, hz, Result.andThen_ok, run_underlying hu, hM, this, hv', Sem.run_pure]
    · cases he
  · rename_i sz ag n es ea z hT
    split at he
    · rename_i cs p hf
      simp only [Option.some.injEq, Prod.mk.injEq] at he
      obtain ⟨rfl, rfl⟩ := he
      obtain ⟨z', hz, hzc, hcells⟩ := zero_cells (o := o) (w := w) hl hT
      obtain ⟨E, hu, hes, i0, hinfo, hsz⟩ := arr_elem hl hT
      obtain ⟨vs', hv', hc'⟩ := fillC_ok hs (place' := fun i => some (i * es, es)) (fun i x hi => hi) hf hφ hcells
      refine ⟨.agg vs', ?_, vs', rfl, hc'.1, hc'.2⟩
      have : (parts.map fun (i, x) => (i, evl tm x)).toList = parts.toList.map fun (i, x) => (i, evl tm x) := by simp
      have hso : (sizeOf E).run P w = .ok es w := by simp [sizeOf, typeInfo, hinfo, hsz]
      simp only [Instr.build, Sem.run_bind, hz, Result.andThen_ok, run_underlying hu, hso, this, hv', Sem.run_pure]
    · cases he
  · cases he
end

end Go.Sy
