/-
  SYMBOLIC STATES, PART C: what the operations that only compute a value come to ('evP'), and that they do ('evP_ok').
-/
import Derived.Test.YtpjhpcclbenfbaaSyB
import Derived.IntWalk
namespace Go.Sy

structure Fld where
  off : Nat
  size : Nat
  agg : Bool

inductive TD where
  | int (k : IntKind)
  | bool
  | str
  | st (fs : List Fld) (eqi : Bool)
  | arr (n es : Nat) (eagg : Bool)
  | sl (E es bytes : Nat)
  | ifc
  | mapIB
  | other

structure TRow where
  size : Nat
  agg : Bool
  td : TD
  zero : List Value

abbrev Lay := List (Nat × TRow)

def aggB (P : Program) (t : Nat) : Bool := match P.underlying t with
  | some (.struct _) | some (.array _ _) => true
  | _ => false

def zEq : Value → Value → Bool
  | .bool a, .bool b => a == b
  | .int k a, .int k' b => decide (k = k') && decide (a = b)
  | .string s, .string t => decide (s.data = #[]) && decide (t.data = #[])
  | .pointer none, .pointer none => true
  | .slice none 0 0, .slice none 0 0 => true
  | .map none, .map none => true
  | .nilFunc, .nilFunc => true
  | .nilIface, .nilIface => true
  | _, _ => false

theorem zEq_ok {a b : Value} (h : zEq a b = true) : a = b ∧ b.oneCell' = true := by
  unfold zEq at h
  split at h <;> simp_all [Value.oneCell']
  rename_i s t
  cases s; cases t; simp_all

def zsEq : List Value → List Value → Bool
  | [], [] => true
  | a :: as, b :: bs => zEq a b && zsEq as bs
  | _, _ => false

theorem zsEq_ok : ∀ {as bs : List Value}, zsEq as bs = true → as = bs ∧ ∀ b ∈ bs, b.oneCell' = true
  | [], [], _ => ⟨rfl, by simp⟩
  | a :: as, b :: bs, h => by
    simp only [zsEq, Bool.and_eq_true] at h
    obtain ⟨rfl, h1⟩ := zEq_ok h.1
    obtain ⟨rfl, h2⟩ := zsEq_ok h.2
    exact ⟨rfl, by simpa using ⟨h1, h2⟩⟩
  | [], _ :: _, h => by simp [zsEq] at h
  | _ :: _, [], h => by simp [zsEq] at h

def fldB (P : Program) (g : Field) (f : Fld) : Bool :=
  g.offset == f.off && (match P.info? g.type with | some j => j.size == f.size && (P.underlying g.type).isSome | none => false) && f.size != 0 && (f.agg == aggB P g.type)

def fldsB (P : Program) : List Field → List Fld → Bool
  | [], [] => true
  | g :: gs, f :: fs => fldB P g f && fldsB P gs fs
  | _, _ => false

def tdB (P : Program) (d : TypeDesc) (agg : Bool) : TD → Bool
  | .int k => !agg && (match d with | .int k' => decide (k' = k) | _ => false)
  | .bool => !agg && (match d with | .bool => true | _ => false)
  | .str => !agg && (match d with | .string => true | _ => false)
  | .st fs _ => agg && (match d with | .struct gs => fldsB P gs.toList fs | _ => false)
  | .arr n es ea => agg && (match d with | .array m e => m == n && (match P.info? e with | some j => j.size == es | none => false) && es != 0 && (ea == aggB P e) | _ => false)
  | .sl E es by' => !agg && (match d with | .slice e => e == E && (match P.info? e with | some j => j.size == es && j.bytes == by' | none => false) && es != 0 | _ => false)
  | .ifc => !agg && (match d with | .interface _ => true | _ => false)
  | .mapIB => !agg && (match d with
    | .map k e => (match P.underlying k with | some (.int .i64) => true | _ => false) && (match P.info? e with | some j => (match j.zero with | some (.bool false) => true | _ => false) | none => false)
    | _ => false)
  | .other => (match d with | .interface _ => false | .struct _ | .array _ _ => agg | _ => !agg)

/-! structs whose cells are all ints, and may be compared -/
def eqFs (P : Program) (g : Nat → Option Nat) : List Field → Nat → Option Nat
  | [], off => some off
  | f :: fs, off => if f.offset = off ∧ f.name ≠ "_" then match g f.type, P.info? f.type with
    | some n, some j => if j.size = n then eqFs P g fs (off + n) else none
    | _, _ => none
    else none
def eqD (P : Program) : Nat → Nat → Option Nat
  | 0, _ => none
  | d + 1, t => match P.underlying t with
    | some (.int .i64) => some 1
    | some (.struct fs) => if P.stoodInHeld t = true then none else eqFs P (eqD P d) fs.toList 0
    | _ => none
def eqiB (P : Program) (t : Nat) (r : TRow) : Bool := match r.td with
  | .st _ true => (match eqD P 3 t with | some n => n == r.size | none => false) && !P.eqGuardType P.depth t
  | _ => true

def rowB (P : Program) (t : Nat) (r : TRow) : Bool :=
  match P.info? t, P.underlying t with
  | some i, some d => i.size == r.size && (match i.zero with | some z => zsEq z.cells.toList r.zero && (match z with | .agg _ => r.agg | _ => !r.agg) | none => false) && tdB P d r.agg r.td && (r.zero.length == r.size) && eqiB P t r
  | _, _ => false

def layB (P : Program) : Lay → Bool
  | [] => true
  | (t, r) :: l => rowB P t r && layB P l

structure RowOk (P : Program) (t : Nat) (r : TRow) : Prop where
  info : ∃ i z, P.info? t = some i ∧ i.size = r.size ∧ i.zero = some z ∧ z.cells.toList = r.zero ∧ (r.agg = true → z = .agg z.cells) ∧ (r.agg = false → z.cells = #[z])
  one : ∀ b ∈ r.zero, b.oneCell' = true
  len : r.zero.length = r.size
  td : ∃ d, P.underlying t = some d ∧ tdB P d r.agg r.td = true
  eqi : eqiB P t r = true

theorem rowB_ok {P : Program} {t : Nat} {r : TRow} (h : rowB P t r = true) : RowOk P t r := by
  unfold rowB at h
  cases hi : P.info? t with
  | none => simp [hi] at h
  | some i =>
    cases hd : P.underlying t with
    | none => simp [hi, hd] at h
    | some d =>
      simp only [hi, hd, Bool.and_eq_true] at h
      obtain ⟨⟨⟨⟨h1, h2⟩, h3⟩, h4⟩, h5⟩ := h
      cases hz : i.zero with
      | none => simp [hz] at h2
      | some z =>
        simp only [hz, Bool.and_eq_true] at h2
        obtain ⟨e1, e2⟩ := zsEq_ok h2.1
        refine ⟨⟨i, z, hi, by simpa using h1, hz, e1, ?_, ?_⟩, e2, by simpa using h4, ⟨d, hd, h3⟩, h5⟩
        · intro ha
          cases z <;> simp_all [Value.cells]
        · intro ha
          cases z <;> simp_all [Value.cells]

def LayOk (P : Program) (lay : Lay) : Prop := ∀ t r, lk lay t = some r → RowOk P t r

theorem layB_ok {P : Program} : ∀ {lay : Lay}, layB P lay = true → LayOk P lay
  | [], _ => fun t r h => by simp [lk] at h
  | (j, x) :: l, h => fun t r hr => by
    simp only [layB, Bool.and_eq_true] at h
    rw [lk_cons] at hr
    split at hr
    · rename_i e; subst e; cases hr; exact rowB_ok h.1
    · exact layB_ok h.2 t r hr

theorem fldsB_nth {P : Program} : ∀ {gs : List Field} {fs : List Fld} {j : Nat} {f : Fld}, fldsB P gs fs = true → fs[j]? = some f → ∃ g, gs[j]? = some g ∧ fldB P g f = true
  | [], [], _, _, _, h => by simp at h
  | g :: gs, f :: fs, 0, f', h, h' => by
    simp only [fldsB, Bool.and_eq_true] at h
    simp at h'; subst h'
    exact ⟨g, rfl, h.1⟩
  | g :: gs, f :: fs, j + 1, f', h, h' => by
    simp only [fldsB, Bool.and_eq_true] at h
    simp at h'
    simpa using fldsB_nth h.2 h'
  | [], _ :: _, _, _, h, _ => by simp [fldsB] at h
  | _ :: _, [], _, _, h, _ => by simp [fldsB] at h

/-! numbers -/

def inK : IntKind → Int → Prop
  | .i64, z => -9223372036854775808 ≤ z ∧ z ≤ 9223372036854775807
  | .u64, z => 0 ≤ z ∧ z ≤ 18446744073709551615
  | .i32, z => -2147483648 ≤ z ∧ z ≤ 2147483647
  | .u32, z => 0 ≤ z ∧ z ≤ 4294967295
  | .i16, z => -32768 ≤ z ∧ z ≤ 32767
  | .u16, z => 0 ≤ z ∧ z ≤ 65535
  | .i8, z => -128 ≤ z ∧ z ≤ 127
  | .u8, z => 0 ≤ z ∧ z ≤ 255

theorem wrap_inK {k : IntKind} {z : Int} (h : inK k z) : k.wrap z = z := by
  cases k
  · exact IntWalk.i8_in z h
  · exact IntWalk.i16_in z h
  · exact IntWalk.i32_in z h
  · exact IntWalk.i64_in z h
  · exact IntWalk.u8_in z h
  · exact IntWalk.u16_in z h
  · exact IntWalk.u32_in z h
  · exact IntWalk.u64_in z h

def iand (k : IntKind) (a b : Int) : Int := k.wrap (BitVec.ofInt k.bits a &&& BitVec.ofInt k.bits b).toNat
def ior (k : IntKind) (a b : Int) : Int := k.wrap (BitVec.ofInt k.bits a ||| BitVec.ofInt k.bits b).toNat
def ixor (k : IntKind) (a b : Int) : Int := k.wrap (BitVec.ofInt k.bits a ^^^ BitVec.ofInt k.bits b).toNat
def iandNot (k : IntKind) (a b : Int) : Int := k.wrap (BitVec.ofInt k.bits a &&& ~~~ BitVec.ofInt k.bits b).toNat
def ishl (a b : Int) : Int := a * 2 ^ b.toNat
def ishr (a b : Int) : Int := a.fdiv (2 ^ b.toNat)

def kEq : IntKind → IntKind → Bool
  | .i64, .i64 | .u64, .u64 | .i32, .i32 | .u32, .u32 | .i16, .i16 | .u16, .u16 | .i8, .i8 | .u8, .u8 => true
  | _, _ => false
theorem kEq_ok {k k' : IntKind} (h : kEq k k' = true) : k = k' := by cases k <;> cases k' <;> simp_all [kEq]

def bitsI : IntKind → Int
  | .i64 | .u64 => 64
  | .i32 | .u32 => 32
  | .i16 | .u16 => 16
  | .i8 | .u8 => 8

def binI (op : BinOp) (k k' : IntKind) (a b : Int) : Option (Value × Prop) :=
  match op with
  | .shl => some (.int k (ishl a b), 0 ≤ b ∧ b ≤ bitsI k ∧ inK k (ishl a b))
  | .shr => some (.int k (ishr a b), 0 ≤ b ∧ b ≤ bitsI k)
  | op => match kEq k k' with
    | false => none
    | true => match op with
      | .add => some (.int k (a + b), inK k (a + b))
      | .sub => some (.int k (a - b), inK k (a - b))
      | .mul => some (.int k (a * b), inK k (a * b))
      | .quo => some (.int k (a.tdiv b), b ≠ 0 ∧ inK k (a.tdiv b))
      | .rem => some (.int k (a.tmod b), b ≠ 0)
      | .and => some (.int k (iand k a b), True)
      | .or => some (.int k (ior k a b), True)
      | .xor => some (.int k (ixor k a b), True)
      | .andNot => some (.int k (iandNot k a b), True)
      | .eql => some (.bool (a == b), True)
      | .neq => some (.bool (a != b), True)
      | .lss => some (.bool (decide (a < b)), True)
      | .leq => some (.bool (decide (a ≤ b)), True)
      | .gtr => some (.bool (decide (b < a)), True)
      | .geq => some (.bool (decide (b ≤ a)), True)
      | _ => none

theorem binI_ok {op : BinOp} {k k' : IntKind} {a b : Int} {v : Value} {φ : Prop} (h : binI op k k' a b = some (v, φ)) (hφ : φ) (P : Program) (w : World) (T : TypeId) :
    (binOp op T (.int k a) (.int k' b)).run P w = .ok v w ∧ v.oneCell' = true := by
  have hb : ∀ k, bitsI k = ((k.bits : Nat) : Int) := by intro k; cases k <;> rfl
  unfold binI at h
  split at h
  · simp only [Option.some.injEq, Prod.mk.injEq] at h
    obtain ⟨rfl, rfl⟩ := h
    obtain ⟨h0, h1, h2⟩ := hφ
    have hm : min b.toNat k.bits = b.toNat := by rw [hb] at h1; omega
    have h2' : inK k (a * 2 ^ b.toNat) := h2
    refine ⟨?_, rfl⟩
    simp [binOp, Op.shift, show ¬ b < 0 by omega, hm, wrap_inK h2', ishl]
  · simp only [Option.some.injEq, Prod.mk.injEq] at h
    obtain ⟨rfl, rfl⟩ := h
    obtain ⟨h0, h1⟩ := hφ
    have hm : min b.toNat k.bits = b.toNat := by rw [hb] at h1; omega
    refine ⟨?_, rfl⟩
    simp [binOp, Op.shift, show ¬ b < 0 by omega, hm, ishr]
  · rename_i h1 h2
    cases hk : kEq k k' with
    | false => simp [hk] at h
    | true =>
      have hkk := kEq_ok hk
      subst hkk
      simp only [hk] at h
      cases op <;> simp only [Option.some.injEq, Prod.mk.injEq, reduceCtorEq] at h <;> first
        | exact (h1 rfl).elim
        | exact (h2 rfl).elim
        | (obtain ⟨rfl, rfl⟩ := h
           first
             | (refine ⟨?_, rfl⟩; simp [binOp, Op.intArith, wrap_inK hφ]; done)
             | (refine ⟨?_, rfl⟩; simp [binOp, Op.intDiv, hφ.1, wrap_inK hφ.2]; done)
             | (refine ⟨?_, rfl⟩; simp [binOp, Op.intDiv, hφ]; done)
             | (refine ⟨?_, rfl⟩; simp [binOp, Op.intBits, iand, ior, ixor, iandNot]; done)
             | (refine ⟨?_, rfl⟩; simp [binOp, Op.intCmp]; done))

end Go.Sy
