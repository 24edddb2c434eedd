/-
  SYMBOLIC STATES, PART D: operations that only compute a value.
-/
import Derived.Test.YtpjhpcclbenfbaaSyC
import Derived.Laws.StructEq
set_option linter.unusedVariables false
set_option linter.unusedSimpArgs false
namespace Go.Sy

def cst : Value → Option (EV × Prop)
  | .agg _ => none
  | .tuple _ => none
  | v => some (.c (.lit v), True)

def rd (A : St) : Operand → Option (EV × Prop)
  | .tmp t => match lk A.sl t with
    | some (.e (.gd b y)) => some (y, b = true)
    | some (.e x) => some (x, True)
    | _ => none
  | .const v => cst v
  | .func f => some (.c (.clo f 0 (fun _ => 0) (fun _ _ => .lit undef)), True)
  | .global _ => none

abbrev evl (tm : Array Value) (x : Operand) : Value := (⟨tm, []⟩ : Act).eval x

section
variable {P : Program} {lay : Lay} {o : Nat → Tag} {h : Nat → Value} {A : St} {tm : Array Value} {w : World}

theorem cst_ok {v : Value} {x : EV} {φ : Prop} (hr : cst v = some (x, φ)) : EvOk o h w x v := by
  unfold cst at hr
  split at hr
  · cases hr
  · cases hr
  · rename_i h1 h2
    simp only [Option.some.injEq, Prod.mk.injEq] at hr
    obtain ⟨rfl, rfl⟩ := hr
    refine ⟨rfl, ?_⟩
    cases v <;> first | rfl | exact (h1 _ rfl).elim | exact (h2 _ rfl).elim

theorem rd_ok (hs : Sat o h A tm w) {x : Operand} {y : EV} {φ : Prop} (hr : rd A x = some (y, φ)) (hφ : φ) : EvOk o h w y (evl tm x) := by
  cases x with
  | tmp t =>
    simp only [rd] at hr
    split at hr
    · rename_i b y' hl
      simp only [Option.some.injEq, Prod.mk.injEq] at hr
      obtain ⟨rfl, rfl⟩ := hr
      exact (hs.slot t _ hl).1 hφ
    · rename_i y' _ hl
      simp only [Option.some.injEq, Prod.mk.injEq] at hr
      obtain ⟨rfl, rfl⟩ := hr
      exact hs.slot t _ hl
    · cases hr
  | const v => exact cst_ok hr
  | func f =>
    simp only [rd, Option.some.injEq, Prod.mk.injEq] at hr
    obtain ⟨rfl, rfl⟩ := hr
    exact ⟨fun _ => 0, rfl, fun j hj => absurd hj (by omega)⟩
  | global g => cases hr

/-- what an operation of this kind gives: a value, memory as it was -/
def Gives (P : Program) (o : Nat → Tag) (h : Nat → Value) (tm : Array Value) (w : World) (s : Sem Value) (sv : SV) : Prop :=
  ∃ v, s.run P w = .ok v w ∧ SvOk o h w sv v

theorem lit_of {u v : Value} (hx : EvOk o h w (.c (.lit u)) v) : v = u ∧ u.oneCell' = true := hx

/-! moves -/
def evMove (A : St) : Operand → Option (SV × Prop)
  | .tmp t => match lk A.sl t with
    | some (.tup xs) => some (.tup xs, True)
    | some (.e (.gd b y)) => some (.e y, b = true)
    | some (.e x) => some (.e x, True)
    | none => none
  | x => match rd A x with
    | some (y, φ) => some (.e y, φ)
    | none => none

theorem evMove_ok (hs : Sat o h A tm w) {x : Operand} {sv : SV} {φ : Prop} (he : evMove A x = some (sv, φ)) (hφ : φ) : SvOk o h w sv (evl tm x) := by
  cases x with
  | tmp t =>
    simp only [evMove] at he
    split at he
    · rename_i xs hl
      simp only [Option.some.injEq, Prod.mk.injEq] at he
      obtain ⟨rfl, rfl⟩ := he
      exact hs.slot t _ hl
    · rename_i b y hl
      simp only [Option.some.injEq, Prod.mk.injEq] at he
      obtain ⟨rfl, rfl⟩ := he
      exact (hs.slot t _ hl).1 hφ
    · rename_i y _ hl
      simp only [Option.some.injEq, Prod.mk.injEq] at he
      obtain ⟨rfl, rfl⟩ := he
      exact hs.slot t _ hl
    · cases he
  | _ =>
    simp only [evMove] at he
    split at he
    · rename_i y φ' hr
      simp only [Option.some.injEq, Prod.mk.injEq] at he
      obtain ⟨rfl, rfl⟩ := he
      exact rd_ok hs hr hφ
    · cases he

/-! pick -/
def evPick (A : St) (c a b : Operand) : Option (SV × Prop) :=
  match rd A c, rd A a, rd A b with
  | some (.c (.lit (.bool t)), p), some (.c (.lit (.bool u)), pa), some (.c (.lit (.bool v)), pb) =>
    match a, b with
    | _, .const (.bool false) => some (.e (.c (.lit (.bool (t && u)))), p ∧ (t = true → pa))
    | .const (.bool true), _ => some (.e (.c (.lit (.bool (t || v)))), p ∧ (t = false → pb))
    | _, _ => some (.e (.c (.lit (.bool (bif t then u else v)))), p ∧ (t = true → pa) ∧ (t = false → pb))
  | _, _, _ => none

theorem evPick_ok (hs : Sat o h A tm w) {c a b : Operand} {sv : SV} {φ : Prop} (he : evPick A c a b = some (sv, φ)) (hφ : φ) :
    ∃ t u v, evl tm c = .bool t ∧ (t = true → evl tm a = .bool u) ∧ (t = false → evl tm b = .bool v) ∧ sv = .e (.c (.lit (.bool (bif t then u else v)))) := by
  unfold evPick at he
  split at he
  · rename_i t p u pa v pb hc ha hb
    have cs : ∀ x : Bool, rd A (.const (.bool x)) = some (.c (.lit (.bool x)), True) := fun x => rfl
    split at he
    · simp only [Option.some.injEq, Prod.mk.injEq] at he
      obtain ⟨rfl, rfl⟩ := he
      rw [cs] at hb
      simp only [Option.some.injEq, Prod.mk.injEq, EV.c.injEq, CV.lit.injEq, Value.bool.injEq] at hb
      obtain ⟨rfl, rfl⟩ := hb
      refine ⟨t, u, false, (rd_ok hs hc hφ.1).1, fun ht => (rd_ok hs ha (hφ.2 ht)).1, fun ht => rfl, ?_⟩
      cases t <;> simp
    · simp only [Option.some.injEq, Prod.mk.injEq] at he
      obtain ⟨rfl, rfl⟩ := he
      rw [cs] at ha
      simp only [Option.some.injEq, Prod.mk.injEq, EV.c.injEq, CV.lit.injEq, Value.bool.injEq] at ha
      obtain ⟨rfl, rfl⟩ := ha
      refine ⟨t, true, v, (rd_ok hs hc hφ.1).1, fun ht => rfl, fun ht => (rd_ok hs hb (hφ.2 ht)).1, ?_⟩
      cases t <;> simp
    · simp only [Option.some.injEq, Prod.mk.injEq] at he
      obtain ⟨rfl, rfl⟩ := he
      exact ⟨t, u, v, (rd_ok hs hc hφ.1).1, fun ht => (rd_ok hs ha (hφ.2.1 ht)).1, fun ht => (rd_ok hs hb (hφ.2.2 ht)).1, rfl⟩
  · cases he

/-! binary operations -/
def litOf (A : St) (x : Operand) : Option (Value × Prop) :=
  match rd A x with
  | some (.c (.lit u), p) => some (u, p)
  | _ => none

theorem litOf_ok (hs : Sat o h A tm w) {x : Operand} {u : Value} {φ : Prop} (hr : litOf A x = some (u, φ)) (hφ : φ) : evl tm x = u ∧ u.oneCell' = true := by
  unfold litOf at hr
  split at hr
  · rename_i u' p hr'
    simp only [Option.some.injEq, Prod.mk.injEq] at hr
    obtain ⟨rfl, rfl⟩ := hr
    exact rd_ok hs hr' hφ
  · cases hr

def isConst : Operand → Bool
  | .const _ => true
  | _ => false

def isIfc (lay : Lay) (T : TypeId) : Bool := match lk lay T with
  | some ⟨_, _, .ifc, _⟩ => true
  | _ => false

def isBoolT (lay : Lay) (T : TypeId) : Bool := match lk lay T with
  | some ⟨_, _, .bool, _⟩ => true
  | _ => false

def isNilB : Value → Bool
  | .nilIface => true
  | _ => false
def ifcV (u : Value) : Prop := u = .nilIface ∨ ∃ t v, u = .iface t v
/-! structs of ints compared -/
def litInts : List CV → Option (List Int)
  | [] => some []
  | .lit (.int .i64 n) :: l => match litInts l with
    | some xs => some (n :: xs)
    | none => none
  | _ => none
theorem litInts_ok : ∀ {l : List CV} {xs : List Int}, litInts l = some xs → l = xs.map fun n => .lit (.int .i64 n)
  | [], xs, ha => by simp [litInts] at ha; subst ha; rfl
  | x :: l, xs, ha => by
    unfold litInts at ha
    split at ha
    · rename_i e; cases e
    · rename_i n l' e
      cases e
      split at ha
      · rename_i ys hy
        simp only [Option.some.injEq] at ha
        subst ha
        rw [litInts_ok hy]; rfl
      · cases ha
    · cases ha
def evEqS (lay : Lay) (A : St) (op : BinOp) (T : TypeId) (x y : Operand) : Option (SV × Prop) :=
  match lk lay T, rd A x, rd A y with
  | some ⟨sz, _, .st _ true, _⟩, some (.ag cx, p), some (.ag cy, q) => match litInts cx, litInts cy with
    | some a, some b => match op, Nat.beq a.length sz && Nat.beq b.length sz with
      | .eql, true => some (.e (.c (.lit (.bool (decide (a = b))))), p ∧ q)
      | .neq, true => some (.e (.c (.lit (.bool (!decide (a = b))))), p ∧ q)
      | _, _ => none
    | _, _ => none
  | _, _, _ => none
def vT (P : Program) (t : Nat) (as : List Int) : Value := if aggB P t = true then .agg (as.map (Value.int .i64)).toArray else .int .i64 (as.headD 0)
theorem part_run {t : Nat} {j : TypeInfo} (hj : P.info? t = some j) (hu : ∃ d, P.underlying t = some d) (h1 : aggB P t = false → j.size = 1) {as : List Int} {off : Nat} (hlen : off + j.size ≤ as.length) :
    (part t (as.map (Value.int .i64)).toArray off).run P w = .ok (vT P t ((as.drop off).take j.size)) w := by
  obtain ⟨d, hd⟩ := hu
  have ha : (isAgg t).run P w = .ok (aggB P t) w := by
    unfold aggB
    cases d <;> simp [isAgg, run_underlying hd, hd]
  unfold vT
  cases hb : aggB P t with
  | true =>
    simp only [part, Sem.run_bind, ha, hb, Result.andThen_ok, if_true]
    simp only [sizeOf, typeInfo, Sem.run_bind, run_program, Result.andThen_ok, hj, Sem.run_pure]
    simp [List.map_take, List.map_drop, List.take_drop]
  | false =>
    have hs := h1 hb
    have hlt : off < as.length := by omega
    simp only [part, Sem.run_bind, ha, hb, Result.andThen_ok, Bool.false_eq_true, if_false]
    simp [hlt, hs, List.head?_take, List.getElem?_drop]
theorem eqFs_ok {g : Nat → Option Nat} {e : Nat} (w : World) (hg : ∀ t m, g t = some m → (aggB P t = false → m = 1) ∧ (∃ d, P.underlying t = some d) ∧ ∀ as bs : List Int, as.length = m → bs.length = m → (Op.equalIn e t (vT P t as) (vT P t bs)).run P w = .ok (decide (as = bs)) w) :
    ∀ (fs : List Field) {off n : Nat}, eqFs P g fs off = some n → ∀ as bs : List Int, as.length = n → bs.length = n → off ≤ n ∧ (Op.eqFields e (as.map (Value.int .i64)).toArray (bs.map (Value.int .i64)).toArray fs).run P w = .ok (decide (as.drop off = bs.drop off)) w
  | [], off, n, h, as, bs, ha, hb => by
    simp only [eqFs, Option.some.injEq] at h
    subst h
    refine ⟨Nat.le_refl _, ?_⟩
    simp [Op.eqFields, List.drop_of_length_le (Nat.le_of_eq ha), List.drop_of_length_le (Nat.le_of_eq hb)]
  | f :: fs, off, n, h, as, bs, ha, hb => by
    simp only [eqFs] at h
    split at h
    · rename_i hf
      split at h
      · rename_i m j hm hj
        split at h
        · rename_i hsz
          obtain ⟨h1, h2, h3⟩ := hg _ _ hm
          obtain ⟨hle, hrest⟩ := eqFs_ok w hg fs h as bs ha hb
          refine ⟨by omega, ?_⟩
          have p1 := part_run (w := w) hj h2 (fun hh => by rw [hsz]; exact h1 hh) (as := as) (off := off) (by omega)
          have p2 := part_run (w := w) hj h2 (fun hh => by rw [hsz]; exact h1 hh) (as := bs) (off := off) (by omega)
          rw [hsz] at p1 p2
          have h4 := h3 ((as.drop off).take m) ((bs.drop off).take m) (by simp; omega) (by simp; omega)
          simp only [Op.eqFields, if_pos hf.2, hf.1, Sem.run_bind, p1, p2, Result.andThen_ok, h4]
          have es : ∀ l : List Int, l.drop off = (l.drop off).take m ++ l.drop (off + m) := fun l => by rw [← List.drop_drop, List.take_append_drop]
          by_cases hq : (as.drop off).take m = (bs.drop off).take m
          · simp only [hq, decide_true, Bool.not_true, Bool.false_eq_true, if_false, hrest]
            congr 1
            rw [es as, es bs, hq]
            simp
          · simp only [hq, decide_false, Bool.not_false, if_true, Sem.run_pure]
            congr 1
            have : as.drop off ≠ bs.drop off := fun e => hq (by rw [e])
            simp [this]
        · cases h
      · cases h
    · cases h
theorem eqD_ok (w : World) : ∀ (d : Nat) {t n : Nat}, eqD P d t = some n → (aggB P t = false → n = 1) ∧ (∃ d, P.underlying t = some d) ∧ ∀ e, d ≤ e → ∀ as bs : List Int, as.length = n → bs.length = n → (Op.equalIn e t (vT P t as) (vT P t bs)).run P w = .ok (decide (as = bs)) w
  | 0, t, n, h => by cases h
  | d + 1, t, n, h => by
    unfold eqD at h
    split at h
    · rename_i hu
      simp only [Option.some.injEq] at h
      subst h
      refine ⟨fun _ => rfl, ⟨_, hu⟩, fun e he as bs ha hb => ?_⟩
      have hag : aggB P t = false := by simp [aggB, hu]
      obtain ⟨e', rfl⟩ : ∃ e', e = e' + 1 := ⟨e - 1, by omega⟩
      match as, ha, bs, hb with
      | [a], _, [b], _ =>
        simp only [vT, hag, Bool.false_eq_true, if_false, List.headD_cons, run_equalIn_int w e' t .i64 .i64 a b hu]
        congr 1
        rw [Bool.eq_iff_iff]; simp
    · rename_i fs hu
      split at h
      · cases h
      · rename_i hso
        have hag : aggB P t = true := by simp [aggB, hu]
        have hfo : P.fieldsOf t = fs := by simp [Program.fieldsOf, hu]
        refine ⟨fun hh => (by rw [hag] at hh; cases hh), ⟨_, hu⟩, fun e he as bs ha hb => ?_⟩
        obtain ⟨e', rfl⟩ : ∃ e', e = e' + 1 := ⟨e - 1, by omega⟩
        simp only [vT, hag, if_true]
        rw [run_equalIn_struct w e' t _ _ (by rw [hfo]; exact hu) (by simpa using hso), hfo]
        obtain ⟨_, hr⟩ := eqFs_ok (e := e') w (fun t m hm => ⟨(eqD_ok w d hm).1, (eqD_ok w d hm).2.1, fun as bs ha hb => (eqD_ok w d hm).2.2 e' (by omega) as bs ha hb⟩) fs.toList h as bs ha hb
        rw [hr]; simp
    · cases h
theorem ag_ints {cx : List CV} {a : List Int} {v : Value} (hx : EvOk o h w (.ag cx) v) (ha : litInts cx = some a) : v = .agg (a.map (Value.int .i64)).toArray := by
  obtain ⟨vs, rfl, hsz, hc⟩ := hx
  have := litInts_ok ha
  subst this
  congr 1
  refine Array.ext (by simpa using hsz) fun i h1 h2 => ?_
  simp only [List.size_toArray, List.length_map] at h2
  obtain ⟨u, hu, hr⟩ := hc i (.lit (.int .i64 a[i])) (by simp [h2])
  rw [Array.getElem?_eq_getElem h1] at hu
  cases hu
  simpa using hr.1
theorem evEqS_ok (hl : LayOk P lay) (hs : Sat o h A tm w) {op : BinOp} {T : TypeId} {x y : Operand} {sv : SV} {φ : Prop} (he : evEqS lay A op T x y = some (sv, φ)) (hφ : φ) :
    Gives P o h tm w (do eqGuard op T x y (evl tm x) (evl tm y); binOp op T (evl tm x) (evl tm y)) sv := by
  unfold evEqS at he
  split at he
  · rename_i sz ag fs z cx p cy q hT hx hy
    split at he
    · rename_i a b hca hcb
      have hq := (hl _ _ hT).eqi
      simp only [eqiB, Bool.and_eq_true, Bool.not_eq_true'] at hq
      obtain ⟨hq1, hq2⟩ := hq
      split at hq1
      · rename_i n hn
        have hn' : n = sz := by simpa using hq1
        subst hn'
        have fin : a.length = n → b.length = n → p → q → vT P T a = .agg (a.map (Value.int .i64)).toArray ∧ (Op.equalIn 10000 T (.agg (a.map (Value.int .i64)).toArray) (.agg (b.map (Value.int .i64)).toArray)).run P w = .ok (decide (a = b)) w := by
          intro h1 h2 _ _
          obtain ⟨_, _, h4⟩ := eqD_ok w 3 hn
          have hag : aggB P T = true := by
            obtain ⟨d, hd, ht⟩ := (hl _ _ hT).td
            simp only [tdB, Bool.and_eq_true] at ht
            cases d <;> simp at ht
            simp [aggB, hd]
          have := h4 10000 (by omega) a b h1 h2
          simp only [vT, hag, if_true] at this ⊢
          exact ⟨trivial, this⟩
        split at he
        · rename_i hc
          simp only [Option.some.injEq, Prod.mk.injEq] at he
          obtain ⟨rfl, rfl⟩ := he
          simp only [Bool.and_eq_true, Nat.beq_eq] at hc
          obtain ⟨_, hr⟩ := fin hc.1 hc.2 hφ.1 hφ.2
          rw [ag_ints (rd_ok hs hx hφ.1) hca, ag_ints (rd_ok hs hy hφ.2) hcb]
          refine ⟨_, ?_, rfl, rfl⟩
          rw [Sem.run_bind, run_eqGuard_agg w _ _ _ _ _ _ hq2, Result.andThen_ok, run_eql_struct, hr]
          rfl
        · rename_i hc
          simp only [Option.some.injEq, Prod.mk.injEq] at he
          obtain ⟨rfl, rfl⟩ := he
          simp only [Bool.and_eq_true, Nat.beq_eq] at hc
          obtain ⟨_, hr⟩ := fin hc.1 hc.2 hφ.1 hφ.2
          rw [ag_ints (rd_ok hs hx hφ.1) hca, ag_ints (rd_ok hs hy hφ.2) hcb]
          refine ⟨_, ?_, rfl, rfl⟩
          rw [Sem.run_bind, run_eqGuard_agg w _ _ _ _ _ _ hq2, Result.andThen_ok, run_neq_struct, hr]
          rfl
        · cases he
      · cases hq1
    · cases he
  · cases he

def evBin (lay : Lay) (A : St) (op : BinOp) (T : TypeId) (x y : Operand) : Option (SV × Prop) :=
  match litOf A x, litOf A y with
  | some (u, p), some (v, q) => match isIfc lay T with
    | true => match isConst y, v, op with
      | true, .nilIface, .eql => some (.e (.c (.lit (.bool (isNilB u)))), p ∧ q ∧ ifcV u)
      | true, .nilIface, .neq => some (.e (.c (.lit (.bool (!isNilB u)))), p ∧ q ∧ ifcV u)
      | _, _, _ => none
    | false => match u, v with
      | .int k a, .int k' b => match binI op k k' a b with
        | some (r, φ) => some (.e (.c (.lit r)), p ∧ q ∧ φ)
        | none => none
      | .bool a, .bool b => match isBoolT lay T, op with
        | true, .eql => some (.e (.c (.lit (.bool (a == b)))), p ∧ q)
        | true, .neq => some (.e (.c (.lit (.bool (a != b)))), p ∧ q)
        | _, _ => none
      | .string a, .string b => match op with
        | .eql => some (.e (.c (.lit (.bool (a.toList == b.toList)))), p ∧ q)
        | .neq => some (.e (.c (.lit (.bool (!(a.toList == b.toList))))), p ∧ q)
        | .add => some (.e (.c (.lit (.string (a ++ b)))), p ∧ q ∧ ((a.size + b.size : Nat) : Int) ≤ 9223372036854775807)
        | _ => none
      | _, _ => none
  | _, _ => evEqS lay A op T x y

theorem isIfc_ok (hl : LayOk P lay) {T : TypeId} (h : isIfc lay T = true) : ∃ ms, P.underlying T = some (.interface ms) := by
  unfold isIfc at h
  split at h
  · rename_i r hr
    obtain ⟨d, hd, ht⟩ := (hl _ _ hr).td
    simp only [tdB, Bool.and_eq_true] at ht
    cases d <;> simp at ht
    exact ⟨_, hd⟩
  · cases h
theorem isBoolT_ok (hl : LayOk P lay) {T : TypeId} (h : isBoolT lay T = true) : P.underlying T = some .bool := by
  unfold isBoolT at h
  split at h
  · rename_i r hr
    obtain ⟨d, hd, ht⟩ := (hl _ _ hr).td
    simp only [tdB, Bool.and_eq_true] at ht
    cases d <;> simp at ht
    exact hd
  · cases h

theorem run_eqIn_bool (d : Nat) {T : TypeId} (hb : P.underlying T = some .bool) (a b : Bool) : (Op.equalIn (d + 1) T (.bool a) (.bool b)).run P w = .ok (a == b) w := by
  simp [Op.equalIn, run_underlying hb]
theorem run_eqIn_nil (d : Nat) {T : TypeId} {ms : Array (String × TypeId)} (hb : P.underlying T = some (.interface ms)) : (Op.equalIn (d + 1) T .nilIface .nilIface).run P w = .ok true w := by
  simp [Op.equalIn, run_underlying hb]
theorem run_eqIn_held (d : Nat) {T t : TypeId} {v : Value} {ms : Array (String × TypeId)} (hb : P.underlying T = some (.interface ms)) : (Op.equalIn (d + 1) T (.iface t v) .nilIface).run P w = .ok false w := by
  simp [Op.equalIn, run_underlying hb]
theorem run_eq_bool {T : TypeId} (hb : P.underlying T = some .bool) (a b : Bool) : (Op.equal T (.bool a) (.bool b)).run P w = .ok (a == b) w := run_eqIn_bool 9999 hb a b
theorem run_eq_nil {T : TypeId} {ms : Array (String × TypeId)} (hb : P.underlying T = some (.interface ms)) : (Op.equal T .nilIface .nilIface).run P w = .ok true w := run_eqIn_nil 9999 hb
theorem run_eq_held {T t : TypeId} {v : Value} {ms : Array (String × TypeId)} (hb : P.underlying T = some (.interface ms)) : (Op.equal T (.iface t v) .nilIface).run P w = .ok false w := run_eqIn_held 9999 hb

theorem evBin_ok (hl : LayOk P lay) (hs : Sat o h A tm w) {op : BinOp} {T : TypeId} {x y : Operand} {sv : SV} {φ : Prop} (he : evBin lay A op T x y = some (sv, φ)) (hφ : φ) :
    Gives P o h tm w (do eqGuard op T x y (evl tm x) (evl tm y); binOp op T (evl tm x) (evl tm y)) sv := by
  unfold evBin at he
  split at he
  · rename_i u p v q hx hy
    split at he
    · rename_i hi
      obtain ⟨ms, hu⟩ := isIfc_ok hl hi
      split at he
      · rename_i hc
        simp only [Option.some.injEq, Prod.mk.injEq] at he
        obtain ⟨rfl, rfl⟩ := he
        have hc' : ∃ v, y = .const v := by cases y <;> simp [isConst] at hc; exact ⟨_, rfl⟩
        obtain ⟨v', rfl⟩ := hc'
        rw [(litOf_ok hs hx hφ.1).1, (litOf_ok hs hy hφ.2.1).1]
        refine ⟨_, ?_, rfl, rfl⟩
        rcases hφ.2.2 with rfl | ⟨t, v, rfl⟩
        · simp [eqGuard, binOp, run_eq_nil hu, isNilB]
        · simp [eqGuard, binOp, run_eq_held hu, isNilB]
      · rename_i hc
        simp only [Option.some.injEq, Prod.mk.injEq] at he
        obtain ⟨rfl, rfl⟩ := he
        have hc' : ∃ v, y = .const v := by cases y <;> simp [isConst] at hc; exact ⟨_, rfl⟩
        obtain ⟨v', rfl⟩ := hc'
        rw [(litOf_ok hs hx hφ.1).1, (litOf_ok hs hy hφ.2.1).1]
        refine ⟨_, ?_, rfl, rfl⟩
        rcases hφ.2.2 with rfl | ⟨t, v, rfl⟩
        · simp [eqGuard, binOp, run_eq_nil hu, isNilB]
        · simp [eqGuard, binOp, run_eq_held hu, isNilB]
      · cases he
    · split at he
      · rename_i k a k' b
        split at he
        · rename_i r φ' hb
          simp only [Option.some.injEq, Prod.mk.injEq] at he
          obtain ⟨rfl, rfl⟩ := he
          rw [(litOf_ok hs hx hφ.1).1, (litOf_ok hs hy hφ.2.1).1]
          obtain ⟨h1, h2⟩ := binI_ok hb hφ.2.2 P w T
          have hg : (eqGuard op T x y (.int k a) (.int k' b)).run P w = .ok () w := by
            unfold eqGuard; split <;> rfl
          exact ⟨r, by simp [hg, h1], rfl, h2⟩
        · cases he
      · rename_i a b
        split at he
        · rename_i ht
          simp only [Option.some.injEq, Prod.mk.injEq] at he
          obtain ⟨rfl, rfl⟩ := he
          rw [(litOf_ok hs hx hφ.1).1, (litOf_ok hs hy hφ.2).1]
          refine ⟨_, ?_, rfl, rfl⟩
          have hb := isBoolT_ok hl ht
          simp [eqGuard, binOp, run_eq_bool hb]
        · rename_i ht
          simp only [Option.some.injEq, Prod.mk.injEq] at he
          obtain ⟨rfl, rfl⟩ := he
          rw [(litOf_ok hs hx hφ.1).1, (litOf_ok hs hy hφ.2).1]
          refine ⟨_, ?_, rfl, rfl⟩
          have hb := isBoolT_ok hl ht
          simp [eqGuard, binOp, run_eq_bool hb, bne]
        · cases he
      · rename_i a b
        split at he
        · simp only [Option.some.injEq, Prod.mk.injEq] at he
          obtain ⟨rfl, rfl⟩ := he
          rw [(litOf_ok hs hx hφ.1).1, (litOf_ok hs hy hφ.2).1]
          exact ⟨_, by simp [eqGuard, binOp, Op.stringOp], rfl, rfl⟩
        · simp only [Option.some.injEq, Prod.mk.injEq] at he
          obtain ⟨rfl, rfl⟩ := he
          rw [(litOf_ok hs hx hφ.1).1, (litOf_ok hs hy hφ.2).1]
          exact ⟨_, by simp [eqGuard, binOp, Op.stringOp], rfl, rfl⟩
        · simp only [Option.some.injEq, Prod.mk.injEq] at he
          obtain ⟨rfl, rfl⟩ := he
          rw [(litOf_ok hs hx hφ.1).1, (litOf_ok hs hy hφ.2.1).1]
          have hb := hφ.2.2
          have hm : IntKind.i64.max = 9223372036854775807 := rfl
          refine ⟨.string (a ++ b), ?_, rfl, rfl⟩
          simp only [Int.natCast_add] at hb
          simp [eqGuard, binOp, Op.stringOp, hm, show ¬ (9223372036854775807 : Int) < (a.size : Int) + (b.size : Int) by omega]
        · cases he
      · cases he
  · exact evEqS_ok hl hs he hφ

/-! unary operations -/
def evUn (A : St) (op : UnOp) (x : Operand) : Option (SV × Prop) :=
  match litOf A x with
  | some (u, p) => match op, u with
    | .not, .bool b => some (.e (.c (.lit (.bool (!b)))), p)
    | .neg, .int k a => some (.e (.c (.lit (.int k (-a)))), p ∧ inK k (-a))
    | _, _ => none
  | none => none

theorem evUn_ok (hs : Sat o h A tm w) {op : UnOp} {x : Operand} {sv : SV} {φ : Prop} (he : evUn A op x = some (sv, φ)) (hφ : φ) :
    Gives P o h tm w (Op.unary op (evl tm x)) sv := by
  unfold evUn at he
  split at he
  · rename_i u p hx
    split at he
    · simp only [Option.some.injEq, Prod.mk.injEq] at he
      obtain ⟨rfl, rfl⟩ := he
      rw [(litOf_ok hs hx hφ).1]
      exact ⟨_, by simp [Op.unary], rfl, rfl⟩
    · rename_i k a
      simp only [Option.some.injEq, Prod.mk.injEq] at he
      obtain ⟨rfl, rfl⟩ := he
      rw [(litOf_ok hs hx hφ.1).1]
      have := wrap_inK hφ.2
      refine ⟨_, ?_, rfl, rfl⟩
      simp [Op.unary, Op.intArith, this]
    · cases he
  · cases he

/-! conversions between integer types -/
def evConv (lay : Lay) (A : St) (S D : TypeId) (x : Operand) : Option (SV × Prop) :=
  match litOf A x, lk lay S, lk lay D with
  | some (.int _ a, p), some _, some ⟨_, _, .int k, _⟩ => some (.e (.c (.lit (.int k a))), p ∧ inK k a)
  | _, _, _ => none

theorem evConv_ok (hl : LayOk P lay) (hs : Sat o h A tm w) {S D : TypeId} {x : Operand} {sv : SV} {φ : Prop} (he : evConv lay A S D x = some (sv, φ)) (hφ : φ) :
    Gives P o h tm w (convert S D (evl tm x)) sv := by
  unfold evConv at he
  split at he
  · rename_i k0 a p r1 sz ag k z hx hS hD
    simp only [Option.some.injEq, Prod.mk.injEq] at he
    obtain ⟨rfl, rfl⟩ := he
    rw [(litOf_ok hs hx hφ.1).1]
    obtain ⟨d, hd, ht⟩ := (hl _ _ hD).td
    obtain ⟨d', hd', _⟩ := (hl _ _ hS).td
    simp only [tdB, Bool.and_eq_true] at ht
    cases d <;> simp at ht
    obtain ⟨_, rfl⟩ := ht
    have := wrap_inK hφ.2
    refine ⟨.int _ a, ?_, rfl, rfl⟩
    simp [convert, run_underlying hd, run_underlying hd', Conv.intToInt, this]
  · cases he

/-! interfaces -/
def evMkI (lay : Lay) (A : St) (T : TypeId) (x : Operand) : Option (SV × Prop) :=
  match litOf A x, lk lay T with
  | some (u, p), some r => match r.td with
    | .ifc => none
    | _ => some (.e (.c (.lit (.iface T u))), p)
  | _, _ => none

theorem evMkI_ok (hl : LayOk P lay) (hs : Sat o h A tm w) {T : TypeId} {x : Operand} {sv : SV} {φ : Prop} (he : evMkI lay A T x = some (sv, φ)) (hφ : φ) :
    Gives P o h tm w (Instr.makeInterface T (evl tm x)) sv := by
  unfold evMkI at he
  split at he
  · rename_i u p r hx hT
    split at he
    · cases he
    · rename_i hne
      simp only [Option.some.injEq, Prod.mk.injEq] at he
      obtain ⟨rfl, rfl⟩ := he
      rw [(litOf_ok hs hx hφ).1]
      obtain ⟨d, hd, ht⟩ := (hl _ _ hT).td
      refine ⟨.iface T u, ?_, rfl, rfl⟩
      have hd' : ∀ ms, d ≠ .interface ms := by
        rintro ms rfl
        cases hr : r.td <;> rw [hr] at ht <;> simp [tdB] at ht
        exact hne hr
      cases d <;> first | exact absurd rfl (hd' _) | simp [Instr.makeInterface, run_underlying hd]
  · cases he

def evAssert (lay : Lay) (A : St) (x : Operand) (T : TypeId) : Option (SV × Prop) :=
  match litOf A x, lk lay T with
  | some (u, p), some r => match r.td, u with
    | .ifc, _ => none
    | _, .iface t v => match Nat.beq t T, r.zero, r.agg with
      | true, _, false => some (.tup [.c (.lit v), .c (.lit (.bool true))], p ∧ v.oneCell' = true)
      | _, _, _ => none
    | _, .nilIface => match r.zero, r.agg with
      | [z], false => some (.tup [.c (.lit z), .c (.lit (.bool false))], p)
      | _, _ => none
    | _, _ => none
  | _, _ => none

theorem evAssert_ok (hl : LayOk P lay) (hs : Sat o h A tm w) {T X : TypeId} {x : Operand} {sv : SV} {φ : Prop} (he : evAssert lay A x T = some (sv, φ)) (hφ : φ) :
    Gives P o h tm w (Instr.typeAssert (evl tm x) X T true) sv := by
  unfold evAssert at he
  split at he
  · rename_i u p r hx hT
    obtain ⟨d, hd, ht⟩ := (hl _ _ hT).td
    split at he
    · cases he
    · rename_i t v hne
      have hd' : ∀ ms, d ≠ .interface ms := by
        rintro ms rfl
        cases hr : r.td <;> rw [hr] at ht <;> simp [tdB] at ht
        exact hne hr
      split at he
      · rename_i hb _
        simp only [Option.some.injEq, Prod.mk.injEq] at he
        obtain ⟨rfl, rfl⟩ := he
        rw [(litOf_ok hs hx hφ.1).1]
        have htT : t = T := Nat.eq_of_beq_eq_true hb
        subst htT
        refine ⟨.tuple #[v, .bool true], ?_, ⟨#[v, .bool true], rfl, rfl, ?_⟩⟩
        · cases d <;> first | exact absurd rfl (hd' _) | simp [Instr.typeAssert, run_underlying hd]
        · intro q y hq
          match q, hq with
          | 0, hq => simp at hq; subst hq; exact ⟨v, rfl, rfl, hφ.2⟩
          | 1, hq => simp at hq; subst hq; exact ⟨_, rfl, rfl, rfl⟩
      · cases he
    · rename_i hne
      have hd' : ∀ ms, d ≠ .interface ms := by
        rintro ms rfl
        cases hr : r.td <;> rw [hr] at ht <;> simp [tdB] at ht
        exact hne hr
      split at he
      · rename_i z hz ha
        simp only [Option.some.injEq, Prod.mk.injEq] at he
        obtain ⟨rfl, rfl⟩ := he
        rw [(litOf_ok hs hx hφ).1]
        obtain ⟨i, z', hi, hsz, hiz, hzc, _, hna⟩ := (hl _ _ hT).info
        have hzz : z' = z := by
          have := hna ha
          rw [hz, this] at hzc
          simpa using hzc
        subst hzz
        have hzv : (zeroValue T).run P w = .ok z' w := by simp [zeroValue, typeInfo, hi, hiz]
        refine ⟨.tuple #[z', .bool false], ?_, ⟨#[z', .bool false], rfl, rfl, ?_⟩⟩
        · cases d <;> first | exact absurd rfl (hd' _) | simp [Instr.typeAssert, run_underlying hd, hzv]
        · intro q y hq
          match q, hq with
          | 0, hq => simp at hq; subst hq; exact ⟨z', rfl, rfl, (hl _ _ hT).one z' (by rw [hz]; simp)⟩
          | 1, hq => simp at hq; subst hq; exact ⟨_, rfl, rfl, rfl⟩
      · cases he
    · cases he
  · cases he

/-! tuples -/
def nth {α : Type} : List α → Nat → Option α
  | [], _ => none
  | x :: _, 0 => some x
  | _ :: l, n + 1 => nth l n
theorem nth_eq {α : Type} : ∀ (l : List α) (n : Nat), nth l n = l[n]?
  | [], _ => by simp [nth]
  | x :: l, 0 => by simp [nth]
  | x :: l, n + 1 => by simp [nth, nth_eq l n]

def evExtract (A : St) (x : Operand) (j : Nat) : Option (SV × Prop) :=
  match x with
  | .tmp t => match lk A.sl t with
    | some (.tup xs) => match nth xs j with
      | some y => some (.e y, True)
      | none => none
    | _ => none
  | _ => none

theorem evExtract_ok (hs : Sat o h A tm w) {x : Operand} {j : Nat} {sv : SV} {φ : Prop} (he : evExtract A x j = some (sv, φ)) :
    Gives P o h tm w (Instr.extract (evl tm x) j) sv := by
  unfold evExtract at he
  split at he
  · rename_i t
    split at he
    · rename_i xs hl
      split at he
      · rename_i y hn
        simp only [Option.some.injEq, Prod.mk.injEq] at he
        obtain ⟨rfl, rfl⟩ := he
        obtain ⟨vs, hv, hsz, hx⟩ := hs.slot t _ hl
        rw [nth_eq] at hn
        obtain ⟨u, hu, hy⟩ := hx j y hn
        refine ⟨u, ?_, hy⟩
        show (Instr.extract (tm.getD t undef) j).run P w = _
        rw [hv]
        simp [Instr.extract, hu]
      · cases he
    · cases he
  · cases he

/-! lengths -/
def evLen (lay : Lay) (A : St) (T : TypeId) (x : Operand) : Option (SV × Prop) :=
  match lk lay T with
  | some ⟨_, _, .sl _ _ _, _⟩ => match rd A x with
    | some (.c (.sl n _ _), p) => some (.e (.c (.lit (.int .i64 (n : Int)))), p)
    | some (.c (.lit (.slice none n _)), p) => some (.e (.c (.lit (.int .i64 (n : Int)))), p)
    | some (.r i, p) => match lk A.rs i with
      | some (.own _ (.sl n _ _)) => some (.e (.c (.lit (.int .i64 (n : Int)))), p)
      | _ => none
    | _ => none
  | some ⟨_, _, .str, _⟩ => match rd A x with
    | some (.c (.lit (.string s)), p) => some (.e (.c (.lit (.int .i64 (s.size : Int)))), p)
    | _ => none
  | _ => none

theorem own_slice {E n k : Nat} {f : Nat → Nat → CV} {i : Nat} (hr : ResOk o h w i (.own E (.sl n k f))) :
    ∃ a cap, h i = .slice a n cap ∧ n ≤ cap ∧ (a = none ∧ n = 0 ∨ ∃ b, a = some ⟨b, 0, none⟩) := by
  obtain ⟨vs, hown, _, _⟩ := hr
  rcases hown.2 with ⟨h1, rfl⟩ | ⟨g, cap, cur, h1, _, _, h2, _⟩
  · exact ⟨none, 0, h1, Nat.le_refl _, .inl ⟨rfl, rfl⟩⟩
  · exact ⟨_, cap, h1, h2, .inr ⟨g, rfl⟩⟩

theorem evLen_ok (hl : LayOk P lay) (hs : Sat o h A tm w) {T ty : TypeId} {x : Operand} {sv : SV} {φ : Prop} (he : evLen lay A T x = some (sv, φ)) (hφ : φ) :
    Gives P o h tm w (Builtin.len_ #[T] ty #[evl tm x]) sv := by
  unfold evLen at he
  split at he
  · rename_i sz ag E es by' z hT
    obtain ⟨d, hd, ht⟩ := (hl _ _ hT).td
    simp only [tdB, Bool.and_eq_true] at ht
    cases d <;> simp at ht
    split at he
    · rename_i n k f p hx
      simp only [Option.some.injEq, Prod.mk.injEq] at he
      obtain ⟨rfl, rfl⟩ := he
      obtain ⟨a, cap, hv, _⟩ := rd_ok hs hx hφ
      rw [hv]
      exact ⟨_, by simp [Builtin.len_, run_underlying hd, goInt], rfl, rfl⟩
    · rename_i n c p hx
      simp only [Option.some.injEq, Prod.mk.injEq] at he
      obtain ⟨rfl, rfl⟩ := he
      rw [(rd_ok hs hx hφ).1]
      exact ⟨_, by simp [Builtin.len_, run_underlying hd, goInt], rfl, rfl⟩
    · rename_i i p hx
      split at he
      · rename_i E' n k f hr
        simp only [Option.some.injEq, Prod.mk.injEq] at he
        obtain ⟨rfl, rfl⟩ := he
        obtain ⟨a, cap, hv, _⟩ := own_slice (hs.res i _ hr)
        have hx' : evl tm x = h i := rd_ok hs hx hφ
        rw [hx', hv]
        exact ⟨_, by simp [Builtin.len_, run_underlying hd, goInt], rfl, rfl⟩
      · cases he
    · cases he
  · rename_i sz ag z hT
    obtain ⟨d, hd, ht⟩ := (hl _ _ hT).td
    simp only [tdB, Bool.and_eq_true] at ht
    cases d <;> simp at ht
    split at he
    · rename_i s p hx
      simp only [Option.some.injEq, Prod.mk.injEq] at he
      obtain ⟨rfl, rfl⟩ := he
      rw [(rd_ok hs hx hφ).1]
      exact ⟨_, by simp [Builtin.len_, run_underlying hd, goInt], rfl, rfl⟩
    · cases he
  · cases he

/-! the lesser and the greater of two -/
def evMin (A : St) (x y : Operand) : Option (SV × Prop) :=
  match litOf A x, litOf A y with
  | some (.int k a, p), some (.int _ b, q) => some (.e (.c (.lit (.int k (min a b)))), p ∧ q)
  | _, _ => none
def evMax (A : St) (x y : Operand) : Option (SV × Prop) :=
  match litOf A x, litOf A y with
  | some (.int k a, p), some (.int _ b, q) => some (.e (.c (.lit (.int k (max a b)))), p ∧ q)
  | _, _ => none

theorem evMin_ok (hs : Sat o h A tm w) {ts : Array TypeId} {ty : TypeId} {x y : Operand} {sv : SV} {φ : Prop} (he : evMin A x y = some (sv, φ)) (hφ : φ) :
    Gives P o h tm w (Builtin.min_ ts ty #[evl tm x, evl tm y]) sv := by
  unfold evMin at he
  split at he
  · rename_i k a p k' b q hx hy
    simp only [Option.some.injEq, Prod.mk.injEq] at he
    obtain ⟨rfl, rfl⟩ := he
    rw [(litOf_ok hs hx hφ.1).1, (litOf_ok hs hy hφ.2).1]
    refine ⟨_, ?_, rfl, rfl⟩
    simp only [Builtin.min_, Builtin.min2, List.foldlM_cons, List.foldlM_nil, Sem.run_bind, Sem.run_pure, Result.andThen_ok]
    congr 2
    split <;> omega
  · cases he
theorem evMax_ok (hs : Sat o h A tm w) {ts : Array TypeId} {ty : TypeId} {x y : Operand} {sv : SV} {φ : Prop} (he : evMax A x y = some (sv, φ)) (hφ : φ) :
    Gives P o h tm w (Builtin.max_ ts ty #[evl tm x, evl tm y]) sv := by
  unfold evMax at he
  split at he
  · rename_i k a p k' b q hx hy
    simp only [Option.some.injEq, Prod.mk.injEq] at he
    obtain ⟨rfl, rfl⟩ := he
    rw [(litOf_ok hs hx hφ.1).1, (litOf_ok hs hy hφ.2).1]
    refine ⟨_, ?_, rfl, rfl⟩
    simp only [Builtin.max_, Builtin.max2, List.foldlM_cons, List.foldlM_nil, Sem.run_bind, Sem.run_pure, Result.andThen_ok]
    congr 2
    split <;> omega
  · cases he
end

end Go.Sy
