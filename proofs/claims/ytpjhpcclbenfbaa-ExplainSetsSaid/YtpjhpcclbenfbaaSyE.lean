/-
  SYMBOLIC STATES, PART E: operations that read memory, addresses, parts.
-/
import Derived.Test.YtpjhpcclbenfbaaSyD
set_option linter.unusedVariables false
set_option linter.unusedSimpArgs false
namespace Go.Sy

section
variable {P : Program} {lay : Lay} {o : Nat → Tag} {h : Nat → Value} {A : St} {tm : Array Value} {w : World}

theorem addr_add (b n m : Nat) : (⟨b, n, none⟩ : Addr).add m = ⟨b, n + m, none⟩ := by
  unfold Addr.add; split <;> simp_all

theorem box_ptr {T i : Nat} {cs : List EV} {bk : Option Nat} (hr : ResOk o h w i (.box T cs bk)) : ∃ b, h i = .pointer (some ⟨b, 0, none⟩) := let ⟨b, _, _, hb, _⟩ := hr; ⟨b, hb⟩

theorem headOf_ok {v : Value} {b : Nat} (hb : headOf v = some b) : v = .pointer (some ⟨b, 0, none⟩) ∨ ∃ n c, v = .slice (some ⟨b, 0, none⟩) n c := by
  unfold headOf at hb
  split at hb
  · cases hb; exact .inl rfl
  · cases hb; exact .inr ⟨_, _, rfl⟩
  · cases hb

/-! a check for nil; a function's value -/
def evNil (A : St) (x : Operand) : Option (SV × Prop) :=
  match rd A x with
  | some (.r i, p) => match lk A.rs i with
    | some (.box _ _ _) => some (.e (.r i), p)
    | _ => none
  | some (.pt i k e q, p) => some (.e (.pt i k e q), p)
  | some (.pe n k f e q, p) => some (.e (.pe n k f e q), p)
  | _ => none

theorem evNil_ok (hs : Sat o h A tm w) {x : Operand} {sv : SV} {φ : Prop} (he : evNil A x = some (sv, φ)) (hφ : φ) : (∃ a, evl tm x = .pointer (some a)) ∧ SvOk o h w sv (evl tm x) := by
  unfold evNil at he
  split at he
  · rename_i i p hx
    split at he
    · rename_i T cs bk hr
      simp only [Option.some.injEq, Prod.mk.injEq] at he
      obtain ⟨rfl, rfl⟩ := he
      have h1 : evl tm x = h i := rd_ok hs hx hφ
      obtain ⟨b, hb⟩ := box_ptr (hs.res i _ hr)
      exact ⟨⟨_, h1.trans hb⟩, h1⟩
    · cases he
  · rename_i i k e q p hx
    simp only [Option.some.injEq, Prod.mk.injEq] at he
    obtain ⟨rfl, rfl⟩ := he
    have h1 := rd_ok hs hx hφ
    obtain ⟨b, hb, hv⟩ := id h1
    exact ⟨⟨_, hv⟩, h1⟩
  · rename_i n k f e q p hx
    simp only [Option.some.injEq, Prod.mk.injEq] at he
    obtain ⟨rfl, rfl⟩ := he
    have h1 := rd_ok hs hx hφ
    obtain ⟨b, off, hv, _⟩ := id h1
    exact ⟨⟨_, hv⟩, h1⟩
  · cases he

def caps (A : St) : List Operand → Option (List Nat)
  | [] => some []
  | .tmp t :: xs => match lk A.sl t with
    | some (.e (.r i)) => match caps A xs with
      | some is => some (i :: is)
      | none => none
    | _ => none
  | _ :: _ => none

theorem caps_ok (hs : Sat o h A tm w) : ∀ {xs : List Operand} {is : List Nat}, caps A xs = some is → xs.map (evl tm) = is.map h
  | [], is, hc => by simp [caps] at hc; subst hc; rfl
  | .tmp t :: xs, is, hc => by
    simp only [caps] at hc
    split at hc
    · rename_i i hl
      split at hc
      · rename_i is' hc'
        simp only [Option.some.injEq] at hc
        subst hc
        simp only [List.map_cons, caps_ok hs hc']
        congr 1
        exact hs.slot t _ hl
      · cases hc
    · cases hc
  | .const _ :: _, _, hc => by simp [caps] at hc
  | .func _ :: _, _, hc => by simp [caps] at hc
  | .global _ :: _, _, hc => by simp [caps] at hc

def evFn (A : St) (fn : Fn) (first cs : Array Operand) : Option (SV × Prop) :=
  match fn, first.toList, caps A cs.toList with
  | .func g, [], some is => some (.e (.fn g is), True)
  | _, _, _ => none

theorem evFn_ok (hs : Sat o h A tm w) {fn : Fn} {first cs : Array Operand} {sv : SV} {φ : Prop} (he : evFn A fn first cs = some (sv, φ)) :
    Gives P o h tm w (Instr.makeFunc fn (first.map (evl tm)) (cs.map (evl tm))) sv := by
  unfold evFn at he
  split at he
  · rename_i g is hf hc
    simp only [Option.some.injEq, Prod.mk.injEq] at he
    obtain ⟨rfl, rfl⟩ := he
    have h1 : first = #[] := by cases first; simp_all
    subst h1
    refine ⟨_, rfl, ?_⟩
    have := caps_ok hs hc
    show Value.func (.func g) (Array.map (evl tm) #[]) (cs.map (evl tm)) = .func (.func g) #[] (is.map h).toArray
    rw [← this]
    cases cs; simp
  · cases he

/-! addresses -/
def evFieldAddr (lay : Lay) (A : St) (T : TypeId) (x : Operand) (j : Nat) : Option (SV × Prop) :=
  match lk lay T with
  | some ⟨_, _, .st fs _, _⟩ => match nth fs j with
    | some ⟨off, _, _⟩ => match rd A x with
      | some (.r i, p) => match lk A.rs i with
        | some (.box _ _ _) => some (.e (.pt i 1 0 off), p)
        | _ => none
      | some (.pt i k e q, p) => some (.e (.pt i k e (q + off)), p)
      | some (.pe n k f e q, p) => some (.e (.pe n k f e (q + off)), p)
      | _ => none
    | none => none
  | _ => none

theorem st_field (hl : LayOk P lay) {T sz : Nat} {ag : Bool} {z : List Value} {fs : List Fld} {qi : Bool} (hT : lk lay T = some ⟨sz, ag, .st fs qi, z⟩) {j : Nat} {f : Fld} (hj : nth fs j = some f) :
    ∃ gs g i, P.underlying T = some (.struct gs) ∧ gs[j]? = some g ∧ g.offset = f.off ∧ P.info? g.type = some i ∧ i.size = f.size ∧ f.size ≠ 0 ∧ f.agg = aggB P g.type ∧ ∃ d, P.underlying g.type = some d := by
  obtain ⟨d, hd, ht⟩ := (hl _ _ hT).td
  simp only [tdB, Bool.and_eq_true] at ht
  cases d <;> simp at ht
  rename_i gs
  rw [nth_eq] at hj
  obtain ⟨g, hg, hf⟩ := fldsB_nth ht.2 hj
  simp only [fldB, Bool.and_eq_true, beq_iff_eq, bne_iff_ne, ne_eq] at hf
  obtain ⟨⟨⟨h1, h2⟩, h3⟩, h4⟩ := hf
  cases hi : P.info? g.type with
  | none => simp [hi] at h2
  | some i =>
    simp [hi] at h2
    exact ⟨gs, g, i, hd, by simpa using hg, h1, hi, h2.1, h3, h4, Option.isSome_iff_exists.1 h2.2⟩

theorem run_fieldAt (hl : LayOk P lay) {T sz : Nat} {ag : Bool} {z : List Value} {fs : List Fld} {qi : Bool} (hT : lk lay T = some ⟨sz, ag, .st fs qi, z⟩) {j : Nat} {f : Fld} (hj : nth fs j = some f) (b n : Nat) :
    (Instr.fieldAt T (.pointer (some ⟨b, n, none⟩)) j).run P w = .ok (.pointer (some ⟨b, n + f.off, none⟩)) w := by
  obtain ⟨gs, g, i, hu, hg, ho, hi, hsz, hne, _⟩ := st_field hl hT hj
  simp [Instr.fieldAt, run_underlying hu, hg, Instr.sureAddr, fieldPlace, sizeOf, typeInfo, hi, hsz, hne, ho, addr_add]

theorem evFieldAddr_ok (hl : LayOk P lay) (hs : Sat o h A tm w) {T : TypeId} {x : Operand} {j : Nat} {sv : SV} {φ : Prop} (he : evFieldAddr lay A T x j = some (sv, φ)) (hφ : φ) :
    Gives P o h tm w (Instr.fieldAt T (evl tm x) j) sv := by
  unfold evFieldAddr at he
  split at he
  · rename_i sz ag fs qi z hT
    split at he
    · rename_i off s2 a2 hj
      split at he
      · rename_i i p hx
        split at he
        · rename_i T' cs bk hr
          simp only [Option.some.injEq, Prod.mk.injEq] at he
          obtain ⟨rfl, rfl⟩ := he
          have h1 : evl tm x = h i := rd_ok hs hx hφ
          obtain ⟨b, hb⟩ := box_ptr (hs.res i _ hr)
          rw [h1, hb]
          exact ⟨_, run_fieldAt hl hT hj b 0, b, by rw [hb]; rfl, by simp⟩
        · cases he
      · rename_i i k e q p hx
        simp only [Option.some.injEq, Prod.mk.injEq] at he
        obtain ⟨rfl, rfl⟩ := he
        obtain ⟨b, hb, hv⟩ := rd_ok hs hx hφ
        rw [hv]
        exact ⟨_, run_fieldAt hl hT hj b _, b, hb, by simp [Nat.add_assoc]⟩
      · rename_i n k f e q p hx
        simp only [Option.some.injEq, Prod.mk.injEq] at he
        obtain ⟨rfl, rfl⟩ := he
        obtain ⟨b, off', hv, hb, hr⟩ := rd_ok hs hx hφ
        rw [hv]
        exact ⟨_, run_fieldAt hl hT hj b _, b, off', by simp [Nat.add_assoc], hb, hr⟩
      · cases he
    · cases he
  · cases he

def evIndexAddr (lay : Lay) (A : St) (T : TypeId) (x ix : Operand) : Option (SV × Prop) :=
  match litOf A ix, lk lay T with
  | some (.int _ z, p'), some ⟨_, _, .sl _ es _, _⟩ => match rd A x with
    | some (.c (.sl n k f), p) => match Nat.beq k es with
      | true => some (.e (.pe n k f z.toNat 0), p ∧ p' ∧ 0 ≤ z ∧ z < n)
      | false => none
    | some (.r i, p) => match lk A.rs i with
      | some (.own _ (.sl n k f)) => match Nat.beq k es with
        | true => some (.e (.pt i k z.toNat 0), p ∧ p' ∧ 0 ≤ z ∧ z < n)
        | false => none
      | _ => none
    | _ => none
  | some (.int _ z, p'), some ⟨_, _, .arr n es _, _⟩ => match rd A x with
    | some (.r i, p) => match lk A.rs i with
      | some (.box _ _ _) => some (.e (.pt i es z.toNat 0), p ∧ p' ∧ 0 ≤ z ∧ z < n)
      | _ => none
    | some (.pt i k e q, p) => some (.e (.pt i es z.toNat (e * k + q)), p ∧ p' ∧ 0 ≤ z ∧ z < n)
    | _ => none
  | _, _ => none

theorem sl_elem (hl : LayOk P lay) {T sz E es by' : Nat} {ag : Bool} {z : List Value} (hT : lk lay T = some ⟨sz, ag, .sl E es by', z⟩) :
    P.underlying T = some (.slice E) ∧ es ≠ 0 ∧ ∃ i, P.info? E = some i ∧ i.size = es ∧ i.bytes = by' := by
  obtain ⟨d, hd, ht⟩ := (hl _ _ hT).td
  simp only [tdB, Bool.and_eq_true] at ht
  cases d <;> simp at ht
  rename_i E'
  obtain ⟨_, ⟨h1, h2⟩, h3⟩ := ht
  subst h1
  cases hi : P.info? E' with
  | none => simp [hi] at h2
  | some i => simp [hi] at h2; exact ⟨hd, h3, i, rfl, h2⟩

theorem arr_elem (hl : LayOk P lay) {T sz n es : Nat} {ag ea : Bool} {z : List Value} (hT : lk lay T = some ⟨sz, ag, .arr n es ea, z⟩) :
    ∃ E, P.underlying T = some (.array n E) ∧ es ≠ 0 ∧ ∃ i, P.info? E = some i ∧ i.size = es := by
  obtain ⟨d, hd, ht⟩ := (hl _ _ hT).td
  simp only [tdB, Bool.and_eq_true] at ht
  cases d <;> simp at ht
  rename_i m E
  obtain ⟨_, ⟨⟨h1, h2⟩, h3⟩, h4⟩ := ht
  subst h1
  cases hi : P.info? E with
  | none => simp [hi] at h2
  | some i => simp [hi] at h2; exact ⟨E, hd, h3, i, hi, h2⟩

theorem evIndexAddr_ok (hl : LayOk P lay) (hs : Sat o h A tm w) {T : TypeId} {x ix : Operand} {sv : SV} {φ : Prop} (he : evIndexAddr lay A T x ix = some (sv, φ)) (hφ : φ) :
    Gives P o h tm w (Instr.indexAt T (evl tm x) (evl tm ix)) sv := by
  unfold evIndexAddr at he
  split at he
  · rename_i ki z p' sz ag E es by' zz hi hT
    obtain ⟨hu, hes, i0, hinfo, hsz, _⟩ := sl_elem hl hT
    split at he
    · rename_i n k f p hx
      split at he
      · rename_i hk
        have hk := Nat.eq_of_beq_eq_true hk
        subst hk
        simp only [Option.some.injEq, Prod.mk.injEq] at he
        obtain ⟨rfl, rfl⟩ := he
        obtain ⟨hp, hp', h0, h1⟩ := hφ
        rw [(litOf_ok hs hi hp').1]
        obtain ⟨a, cap, hv, hnc, hcm, hrow⟩ := rd_ok hs hx hp
        rw [hv]
        rcases hrow with hn | ⟨b, off, rfl, hb, hr⟩
        · omega
        · exact ⟨.pointer (some ⟨b, off + (z.toNat * k + 0), none⟩), by simp [Instr.indexAt, run_underlying hu, asIntOf, h0, h1, sizeOf, typeInfo, hinfo, hsz, addr_add], b, off, rfl, hb, hr⟩
      · cases he
    · rename_i i p hx
      split at he
      · rename_i E' n k f hr
        split at he
        · rename_i hk
          have hk := Nat.eq_of_beq_eq_true hk
          subst hk
          simp only [Option.some.injEq, Prod.mk.injEq] at he
          obtain ⟨rfl, rfl⟩ := he
          obtain ⟨hp, hp', h0, h1⟩ := hφ
          rw [(litOf_ok hs hi hp').1]
          have hx' : evl tm x = h i := rd_ok hs hx hp
          obtain ⟨a, cap, hv, hnc, hab⟩ := own_slice (hs.res i _ hr)
          rw [hx', hv]
          rcases hab with ⟨_, hn⟩ | ⟨b, rfl⟩
          · omega
          · exact ⟨.pointer (some ⟨b, z.toNat * k + 0, none⟩), by simp [Instr.indexAt, run_underlying hu, asIntOf, h0, h1, sizeOf, typeInfo, hinfo, hsz, addr_add], b, by rw [hv]; rfl, rfl⟩
        · cases he
      · cases he
    · cases he
  · rename_i ki z p' sz ag n es ea zz hi hT
    obtain ⟨E, hu, hes, i0, hinfo, hsz⟩ := arr_elem hl hT
    split at he
    · rename_i i p hx
      split at he
      · rename_i T' cs bk hr
        simp only [Option.some.injEq, Prod.mk.injEq] at he
        obtain ⟨rfl, rfl⟩ := he
        obtain ⟨hp, hp', h0, h1⟩ := hφ
        rw [(litOf_ok hs hi hp').1]
        have hx' : evl tm x = h i := rd_ok hs hx hp
        obtain ⟨b, hb⟩ := box_ptr (hs.res i _ hr)
        rw [hx', hb]
        exact ⟨.pointer (some ⟨b, z.toNat * es + 0, none⟩), by simp [Instr.indexAt, Instr.sureAddr, run_underlying hu, asIntOf, h0, h1, sizeOf, typeInfo, hinfo, hsz, addr_add], b, by rw [hb]; rfl, rfl⟩
      · cases he
    · rename_i i k e q p hx
      simp only [Option.some.injEq, Prod.mk.injEq] at he
      obtain ⟨rfl, rfl⟩ := he
      obtain ⟨hp, hp', h0, h1⟩ := hφ
      rw [(litOf_ok hs hi hp').1]
      obtain ⟨b, hb, hv⟩ := rd_ok hs hx hp
      rw [hv]
      exact ⟨.pointer (some ⟨b, z.toNat * es + (e * k + q), none⟩), by simp [Instr.indexAt, Instr.sureAddr, run_underlying hu, asIntOf, h0, h1, sizeOf, typeInfo, hinfo, hsz, addr_add, Nat.add_comm], b, hb, rfl⟩
    · cases he
  · cases he

/-! loads -/
def tabF (f : Nat → Nat → CV) (e q : Nat) : Nat → List CV
  | 0 => []
  | s + 1 => f e q :: tabF f e (q + 1) s
theorem tabF_length (f : Nat → Nat → CV) (e : Nat) : ∀ s q, (tabF f e q s).length = s
  | 0, q => rfl
  | s + 1, q => by simp [tabF, tabF_length f e s (q + 1)]
theorem tabF_get (f : Nat → Nat → CV) (e : Nat) : ∀ s q j, j < s → (tabF f e q s)[j]? = some (f e (q + j))
  | 0, q, j, hj => by omega
  | s + 1, q, 0, hj => by simp [tabF]
  | s + 1, q, j + 1, hj => by
    simp only [tabF, List.getElem?_cons_succ]
    rw [tabF_get f e s (q + 1) j (by omega)]
    congr 2; omega

def takeC : List EV → Nat → Nat → Option (List CV)
  | _, _, 0 => some []
  | [], _, _ + 1 => none
  | _ :: cs, i + 1, s + 1 => takeC cs i (s + 1)
  | .c x :: cs, 0, s + 1 => match takeC cs 0 s with
    | some xs => some (x :: xs)
    | none => none
  | _ :: _, 0, _ + 1 => none

theorem takeC_ok : ∀ {cs : List EV} {i s : Nat} {xs : List CV}, takeC cs i s = some xs → xs.length = s ∧ ∀ j (x : CV), xs[j]? = some x → cs[i + j]? = some (.c x)
  | cs, i, 0, xs, ht => by
    have : xs = [] := by cases cs <;> simp [takeC] at ht <;> exact ht
    subst this; simp
  | [], i, s + 1, xs, ht => by simp [takeC] at ht
  | c :: cs, i + 1, s + 1, xs, ht => by
    have : takeC cs i (s + 1) = some xs := by cases c <;> simpa [takeC] using ht
    obtain ⟨h1, h2⟩ := takeC_ok this
    exact ⟨h1, fun j x hj => by rw [show i + 1 + j = (i + j) + 1 by omega]; simpa using h2 j x hj⟩
  | .c y :: cs, 0, s + 1, xs, ht => by
    simp only [takeC] at ht
    split at ht
    · rename_i xs' ht'
      simp only [Option.some.injEq] at ht
      subst ht
      obtain ⟨h1, h2⟩ := takeC_ok ht'
      refine ⟨by simp [h1], fun j x hj => ?_⟩
      cases j with
      | zero => simp at hj; subst hj; simp
      | succ j => simp at hj; have := h2 j x hj; simpa [Nat.zero_add] using this
    · cases ht
  | .dead :: _, 0, _ + 1, _, ht => by simp [takeC] at ht
  | .ag _ :: _, 0, _ + 1, _, ht => by simp [takeC] at ht
  | .r _ :: _, 0, _ + 1, _, ht => by simp [takeC] at ht
  | .pt _ _ _ _ :: _, 0, _ + 1, _, ht => by simp [takeC] at ht
  | .pe _ _ _ _ _ :: _, 0, _ + 1, _, ht => by simp [takeC] at ht
  | .fn _ _ :: _, 0, _ + 1, _, ht => by simp [takeC] at ht
  | .gd _ _ :: _, 0, _ + 1, _, ht => by simp [takeC] at ht

def ldRow (agg : Bool) (s n k : Nat) (f : Nat → Nat → CV) (e q : Nat) (p : Prop) : Option (SV × Prop) :=
  match agg with
  | false => match Nat.blt q k with
    | true => some (.e (.c (f e q)), p ∧ e < n)
    | false => none
  | true => match Nat.ble (q + s) k with
    | true => some (.e (.ag (tabF f e q s)), p ∧ e < n)
    | false => none

def ldBox (agg : Bool) (s : Nat) (cs : List EV) (i : Nat) (p : Prop) : Option (SV × Prop) :=
  match agg with
  | false => match nth cs i with
    | some x => some (.e x, p)
    | none => none
  | true => match takeC cs i s with
    | some xs => some (.e (.ag xs), p)
    | none => none

def evLoad (lay : Lay) (A : St) (T : TypeId) (x : Operand) : Option (SV × Prop) :=
  match lk lay T with
  | some ⟨s, agg, _, _⟩ => match rd A x with
    | some (.r i, p) => match lk A.rs i with
      | some (.box _ cs _) => ldBox agg s cs 0 p
      | _ => none
    | some (.pt i k e q, p) => match lk A.rs i with
      | some (.box _ cs _) => ldBox agg s cs (e * k + q) p
      | some (.own _ (.sl n k' f)) => match Nat.beq k k' with
        | true => ldRow agg s n k f e q p
        | false => none
      | _ => none
    | some (.pe n k f e q, p) => ldRow agg s n k f e q p
    | _ => none
  | none => none

theorem lay_agg (hl : LayOk P lay) {T : Nat} {r : TRow} (hT : lk lay T = some r) : (isAgg T).run P w = .ok r.agg w := by
  obtain ⟨d, hd, ht⟩ := (hl _ _ hT).td
  generalize r.agg = ra at ht ⊢
  generalize r.td = td at ht
  cases td <;> cases d <;> simp [tdB] at ht <;> (try obtain ⟨rfl, _⟩ := ht) <;> (try subst ht) <;> simp [isAgg, run_underlying hd]

theorem lay_size (hl : LayOk P lay) {T : Nat} {r : TRow} (hT : lk lay T = some r) : (sizeOf T).run P w = .ok r.size w := by
  obtain ⟨i, z, hi, hs, _⟩ := (hl _ _ hT).info
  simp [sizeOf, typeInfo, hi, hs]

/-- a load of a plain cell, of a run of cells -/
theorem run_load_cell (hl : LayOk P lay) {T s : Nat} {td : TD} {z : List Value} (hT : lk lay T = some ⟨s, false, td, z⟩) {b n : Nat} {u : Value} (hc : w.cell? ⟨b, n, none⟩ = some u) :
    (Instr.loadAt T (.pointer (some ⟨b, n, none⟩))).run P w = .ok u w := by
  have := lay_agg (w := w) hl hT
  simp [Instr.loadAt, Instr.sureAddr, loadVar, this, hc]

theorem run_load_cells (hl : LayOk P lay) {T s : Nat} {td : TD} {z : List Value} (hT : lk lay T = some ⟨s, true, td, z⟩) {b n : Nat} (us : List Value) (hu : us.length = s)
    (hc : ∀ j u, us[j]? = some u → w.cell? ⟨b, n + j, none⟩ = some u) :
    (Instr.loadAt T (.pointer (some ⟨b, n, none⟩))).run P w = .ok (.agg us.toArray) w := by
  have h1 := lay_agg (w := w) hl hT
  have h2 := lay_size (w := w) hl hT
  have h3 := run_loadCells_list (P := P) (w := w) ⟨b, n, none⟩ us (fun j u hj => by rw [addr_add]; exact hc j u hj)
  rw [hu] at h3
  simp [Instr.loadAt, Instr.sureAddr, loadVar, h1, h2, h3]

theorem choose_list {α β : Type} (R : α → β → Prop) : ∀ (s : Nat) (g : Nat → α), (∀ j, j < s → ∃ u, R (g j) u) → ∃ us : List β, us.length = s ∧ ∀ j u, us[j]? = some u → R (g j) u
  | 0, g, _ => ⟨[], rfl, by simp⟩
  | s + 1, g, hg => by
    obtain ⟨us, h1, h2⟩ := choose_list R s g (fun j hj => hg j (by omega))
    obtain ⟨u, hu⟩ := hg s (by omega)
    refine ⟨us ++ [u], by simp [h1], fun j v hj => ?_⟩
    rw [List.getElem?_append] at hj
    split at hj
    · exact h2 j v hj
    · rename_i hlt
      have : j - us.length = 0 := by
        cases hz : j - us.length with
        | zero => rfl
        | succ m => rw [hz] at hj; simp at hj
      rw [this] at hj
      simp at hj
      subst hj
      have : j = s := by omega
      subst this; exact hu

theorem ldRow_ok (hl : LayOk P lay) {T s : Nat} {agg : Bool} {td : TD} {z : List Value} (hT : lk lay T = some ⟨s, agg, td, z⟩) {n k : Nat} {f : Nat → Nat → CV} {e q b off : Nat} {p : Prop} {sv : SV} {φ : Prop}
    (hrow : ∀ e' q', e' < n → q' < k → ∃ u, w.cell? ⟨b, off + (e' * k + q'), none⟩ = some u ∧ RepV o w (f e' q') u)
    (he : ldRow agg s n k f e q p = some (sv, φ)) (hφ : φ) : ∃ v, (Instr.loadAt T (.pointer (some ⟨b, off + (e * k + q), none⟩))).run P w = .ok v w ∧ SvOk o h w sv v := by
  unfold ldRow at he
  split at he
  · split at he
    · rename_i hb
      simp only [Option.some.injEq, Prod.mk.injEq] at he
      obtain ⟨rfl, rfl⟩ := he
      have hq1 : q + 1 ≤ k := by simpa [Nat.blt] using hb
      have hq : q < k := hq1
      obtain ⟨u, hu, hr⟩ := hrow e q hφ.2 hq
      exact ⟨u, run_load_cell hl hT hu, hr⟩
    · cases he
  · split at he
    · rename_i hb
      simp only [Option.some.injEq, Prod.mk.injEq] at he
      obtain ⟨rfl, rfl⟩ := he
      have hq : q + s ≤ k := by simpa using hb
      obtain ⟨us, h1, h2⟩ := choose_list (fun (j : Nat) (u : Value) => w.cell? ⟨b, off + (e * k + q) + j, none⟩ = some u ∧ RepV o w (f e (q + j)) u) s (fun j => j)
        (fun j hj => by
          obtain ⟨u, hu, hr⟩ := hrow e (q + j) hφ.2 (by omega)
          exact ⟨u, by rw [← hu]; congr 2; omega, hr⟩)
      refine ⟨_, run_load_cells hl hT us h1 (fun j u hj => (h2 j u hj).1), us.toArray, rfl, by simp [tabF_length, h1], fun j x hj => ?_⟩
      have hjs : j < s := by
        rcases Nat.lt_or_ge j s with hlt | hge
        · exact hlt
        · rw [List.getElem?_eq_none (by rw [tabF_length]; exact hge)] at hj; cases hj
      rw [tabF_get f e s q j hjs] at hj
      cases hj
      have hju : us[j]? = some us[j] := List.getElem?_eq_getElem (by omega)
      exact ⟨us[j], by simp, (h2 j _ hju).2⟩
    · cases he

theorem ldBox_ok (hl : LayOk P lay) {T s : Nat} {agg : Bool} {td : TD} {z : List Value} (hT : lk lay T = some ⟨s, agg, td, z⟩) {cs : List EV} {i b : Nat} {p : Prop} {sv : SV} {φ : Prop}
    {vs : Array Value} {T' : Nat} (hb : w.heap[b]? = some (.cells vs T' (0, 0))) (hsz : vs.size = cs.length) (hv : ∀ (q : Nat) x, cs[q]? = some x → ∃ u, vs[q]? = some u ∧ u.oneCell' = true ∧ EvOk o h w x u)
    (he : ldBox agg s cs i p = some (sv, φ)) : ∃ v, (Instr.loadAt T (.pointer (some ⟨b, i, none⟩))).run P w = .ok v w ∧ SvOk o h w sv v := by
  have hcell : ∀ j, w.cell? ⟨b, j, none⟩ = vs[j]? := fun j => by simp [World.cell?, hb]
  unfold ldBox at he
  split at he
  · split at he
    · rename_i x hn
      simp only [Option.some.injEq, Prod.mk.injEq] at he
      obtain ⟨rfl, rfl⟩ := he
      rw [nth_eq] at hn
      obtain ⟨u, hu, _, hx⟩ := hv i x hn
      exact ⟨u, run_load_cell hl hT ((hcell i).trans hu), hx⟩
    · cases he
  · split at he
    · rename_i xs ht
      simp only [Option.some.injEq, Prod.mk.injEq] at he
      obtain ⟨rfl, rfl⟩ := he
      obtain ⟨h1, h2⟩ := takeC_ok ht
      obtain ⟨us, h3, h4⟩ := choose_list (fun (j : Nat) (u : Value) => vs[i + j]? = some u ∧ ∀ x, xs[j]? = some x → RepV o w x u) s (fun j => j)
        (fun j hj => by
          have hxj : xs[j]? = some xs[j] := List.getElem?_eq_getElem (by omega)
          obtain ⟨u, hu, _, hx⟩ := hv (i + j) _ (h2 j _ hxj)
          exact ⟨u, hu, fun x hx' => by rw [hxj] at hx'; cases hx'; exact hx⟩)
      refine ⟨_, run_load_cells hl hT us h3 (fun j u hj => (hcell (i + j)).trans (h4 j u hj).1), us.toArray, rfl, by simp [h1, h3], fun j x hj => ?_⟩
      have hjs : j < us.length := by
        rw [h3, ← h1]
        exact (List.getElem?_eq_some_iff.1 hj).1
      have hju : us[j]? = some us[j] := List.getElem?_eq_getElem hjs
      exact ⟨us[j], by simp, (h4 j _ hju).2 x hj⟩
    · cases he

theorem evLoad_ok (hl : LayOk P lay) (hs : Sat o h A tm w) {T : TypeId} {x : Operand} {sv : SV} {φ : Prop} (he : evLoad lay A T x = some (sv, φ)) (hφ : φ) :
    Gives P o h tm w (Instr.loadAt T (evl tm x)) sv := by
  have hp : ∀ agg s cs i p, ldBox agg s cs i p = some (sv, φ) → p := fun agg s cs i p hh => by
    unfold ldBox at hh
    split at hh <;> split at hh <;> first | (cases hh; exact hφ) | cases hh
  have hp' : ∀ agg s n k f e q p, ldRow agg s n k f e q p = some (sv, φ) → p := fun agg s n k f e q p hh => by
    unfold ldRow at hh
    split at hh <;> split at hh <;> first | (cases hh; exact hφ.1) | cases hh
  unfold evLoad at he
  split at he
  · rename_i s agg td z hT
    split at he
    · rename_i i p hx
      split at he
      · rename_i T' cs bk hr
        have h1 : evl tm x = h i := rd_ok hs hx (hp _ _ _ _ _ he)
        obtain ⟨b, vs, _, hb, hheap, _, hsz, hv⟩ := hs.res i _ hr
        rw [h1, hb]
        exact ldBox_ok hl hT hheap hsz hv he
      · cases he
    · rename_i i k e q p hx
      split at he
      · rename_i T' cs bk hr
        obtain ⟨b', hb', hv'⟩ := rd_ok hs hx (hp _ _ _ _ _ he)
        obtain ⟨b, vs, _, hb, hheap, _, hsz, hv⟩ := hs.res i _ hr
        rw [hb] at hb'
        cases hb'
        rw [hv']
        exact ldBox_ok hl hT hheap hsz hv he
      · rename_i E n k' f hr
        split at he
        · rename_i hk
          have hk := Nat.eq_of_beq_eq_true hk
          subst hk
          obtain ⟨b', hb', hv'⟩ := rd_ok hs hx (hp' _ _ _ _ _ _ _ _ he)
          obtain ⟨vs, hown, htag, hvs⟩ := hs.res i _ hr
          rw [hv']
          have hrow : ∀ e' q', e' < n → q' < k → ∃ u, w.cell? ⟨b', 0 + (e' * k + q'), none⟩ = some u ∧ RepV o w (f e' q') u := by
            intro e' q' he' hq'
            obtain ⟨u, hu, hr⟩ := hvs e' q' he' hq'
            rcases hown.2 with ⟨h0, h00⟩ | ⟨g, cap, cur, hg, _⟩
            · omega
            · rw [hg] at hb'
              cases hb'
              have := hown.cells (g := b') (by rw [hg]; rfl) _ _ hu
              rw [addr_add] at this
              exact ⟨u, this, hr⟩
          have := ldRow_ok (h := h) hl hT hrow he hφ
          rw [Nat.zero_add] at this
          exact this
        · cases he
      · cases he
    · rename_i n k f e q p hx
      obtain ⟨b, off, hv, hb, hr⟩ := rd_ok hs hx (hp' _ _ _ _ _ _ _ _ he)
      rw [hv]
      exact ldRow_ok hl hT hr he hφ
    · cases he
  · cases he
end

end Go.Sy
