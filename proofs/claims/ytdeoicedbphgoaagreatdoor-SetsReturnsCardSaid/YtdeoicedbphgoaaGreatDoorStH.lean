/-
  sets.Least out of the shelf's contract of TrailingZeros (its table in a package variable); ref05.Subset, ref05.Least; the law SetsTells.
-/
import Derived.Test.YtdeoicedbphgoaaGreatDoorStD
import Derived.Shelf.Spec.TrailingZeros
import Derived.Lib.LaidTab
set_option linter.unusedSectionVars false
set_option linter.unusedVariables false
set_option linter.unusedSimpArgs false
attribute [local instance] Go.Sy.drwNo
namespace Go.Pu
open Go.Sy
def headD (l : List Int) : Int := l.headD (-1)
theorem elemsN_none (s : Int) : ∀ k, (∀ i, i < k → bit s i = false) → elemsN s k = []
  | 0, _ => rfl
  | k + 1, h => by rw [elemsN_succ, elemsN_none s k fun i hi => h i (by omega), h k (by omega)]; rfl
theorem elemsN_head (s : Int) (c : Nat) (h : ∀ i, i < c → bit s i = false) (hc : bit s c = true) : ∀ k, c < k → headD (elemsN s k) = c
  | 0, hk => by omega
  | k + 1, hk => by
    rw [elemsN_succ]
    by_cases e : c = k
    · subst e
      rw [elemsN_none s c h, hc]; rfl
    · have := elemsN_head s c h hc k (by omega)
      unfold headD at this ⊢
      cases hl : elemsN s k with
      | nil => rw [hl] at this; simp at this
      | cons x r => rw [hl] at this; simpa using this
def leaP (s : Int) : Int := if cutS s = 0 then -1 else (Lib.ctz 64 (cutS s).toNat : Nat)
theorem lea_head (s : Int) : leaP s = headD (elemsS s) := by
  have h := validS_iff.1 (valid_cutS s)
  have hbc : ∀ i, i < 24 → bit s i = bit (cutS s) i := fun i hi => by rw [bit_cutS, decide_eq_true hi, Bool.and_true]
  unfold leaP
  split
  · rename_i h0
    rw [elemsS, elemsN_none s 24 fun i hi => by rw [hbc i hi, h0]; simp]; rfl
  · rename_i h0
    obtain ⟨n, hn⟩ := Int.eq_ofNat_of_zero_le h.1
    rw [hn, Int.toNat_natCast]
    have hn0 : n ≠ 0 := fun e => h0 (by rw [hn, e]; rfl)
    obtain ⟨m, hm, hk⟩ := Lib.ctzFrom_spec 64 n (by omega) (by omega)
    have hc : Lib.ctz 64 n = Lib.ctzFrom 64 n := by rw [Lib.ctz, if_neg hn0]
    rw [hc]
    generalize Lib.ctzFrom 64 n = c at hm hk
    have hlt : c < 24 := by
      refine Classical.byContradiction fun hge => ?_
      have h1 : 2 ^ 24 ≤ 2 ^ c := Nat.pow_le_pow_right (by decide) (by omega)
      have h2 : 2 ^ c * 1 ≤ 2 ^ c * (2 * m + 1) := Nat.mul_le_mul_left _ (by omega)
      omega
    have hbn : ∀ i, i < 24 → bit s i = n.testBit i := fun i hi => by rw [hbc i hi, hn, bit_nat (by omega)]
    refine (elemsN_head s c (fun i hi => ?_) ?_ 24 hlt).symm
    · rw [hbn i (by omega), hm, Nat.testBit_two_pow_mul, decide_eq_false (by omega), Bool.false_and]
    · rw [hbn c hlt, hm, Nat.testBit_two_pow_mul, decide_eq_true (Nat.le_refl c), Bool.true_and, Nat.sub_self]
      simp
theorem sub_all (a b : Int) : subS a b = (elemsS a).all fun x => hasB b x := by
  have e : subS a b = subS (cutS a) b := by rw [subS, subS, cutS_of (valid_cutS a)]
  rw [e, Bool.eq_iff_iff, subS_iff (valid_cutS a), List.all_eq_true]
  constructor
  · intro h x hx
    obtain ⟨i, hi, hb, rfl⟩ := mem_elemsS.1 hx
    rw [hasB_nat _ hi]
    exact h i (by rw [bit_cutS, hb, decide_eq_true hi]; rfl)
  · intro h i hi
    rw [bit_cutS, Bool.and_eq_true, decide_eq_true_iff] at hi
    have := h i (mem_elemsS.2 ⟨i, hi.2, hi.1, rfl⟩)
    rwa [hasB_nat _ hi.2] at this
end Go.Pu
namespace Go.Proofs.YtdeoicedbphgoaaGreatDoor
open Go.Sy Go.Pu Go.Shelf
theorem bitLen_top {n k : Nat} (h1 : 2 ^ k ≤ n) (h2 : n < 2 ^ (k + 1)) (h : n < 2 ^ 64) : Lib.bitLen n = k + 1 := by
  rw [Lib.bitLen_shift k n h1 h]
  have e : n / 2 ^ k = 1 := by
    rw [Nat.div_eq_of_lt_le] <;> omega
  rw [e]; rfl
theorem last_cut (s : Int) : ∀ k, k ≤ 24 → lastD (elemsN s k) = ((Lib.bitLen ((cutS s).toNat % 2 ^ k) : Nat) : Int) - 1
  | 0, _ => by simp [elemsN, lastD, Nat.mod_one]; decide
  | k + 1, hk => by
    have h := validS_iff.1 (valid_cutS s)
    have hb : bit s k = (cutS s).toNat.testBit k := by
      have e := bit_cutS s k
      have hk' : decide (k < 24) = true := by simp; omega
      rw [hk', Bool.and_true] at e
      rw [← e]
      obtain ⟨n, hn⟩ := Int.eq_ofNat_of_zero_le h.1
      rw [hn, bit_nat (by omega)]; simp
    have hm : (cutS s).toNat % 2 ^ (k + 1) = (cutS s).toNat % 2 ^ k + if bit s k = true then 2 ^ k else 0 := by
      rw [Nat.mod_pow_succ, hb, Nat.testBit_eq_decide_div_mod_eq]
      rcases Nat.mod_two_eq_zero_or_one ((cutS s).toNat / 2 ^ k) with e | e <;> simp [e]
    rw [elemsN_succ, hm]
    cases hbb : bit s k with
    | false => simp; exact last_cut s k (by omega)
    | true =>
      have h1 : (cutS s).toNat % 2 ^ k < 2 ^ k := Nat.mod_lt _ (Nat.two_pow_pos k)
      have h2 : 2 ^ (k + 1) = 2 ^ k + 2 ^ k := by rw [Nat.pow_succ]; omega
      have h3 : 2 ^ (k + 1) ≤ 2 ^ 24 := Nat.pow_le_pow_right (by decide) hk
      rw [bitLen_top (k := k) (by simp) (by simp; omega) (by simp; omega)]
      simp [lastD]
theorem grt_last (s : Int) : grtS s = lastD (elemsS s) := by
  rw [elemsS, last_cut s 24 (Nat.le_refl _), grtS, Nat.mod_eq_of_lt]
  have := validS_iff.1 (valid_cutS s)
  omega

def layTZ_ren : Go.Shelf.Ren := ⟨fun | 27 => 130 | 28 => 195 | 29 => 196 | n => n,
  fun | 0 => 0 | 3 => 3 | 4 => 4 | 5 => 5 | 22 => 209 | 25 => 169 | 27 => 207 | 53 => 229 | 54 => 230 | n => n,
  fun n => n⟩
theorem layTZ : Go.Proofs.Lays7.n27 Tryz.prog layTZ_ren := {
  mixed := by kernel_rfl
  f27 := Tryz.func130.trans (congrArg some (by kernel_rfl))
  f28 := Tryz.func195.trans (congrArg some (by kernel_rfl))
  f29 := Tryz.func196.trans (congrArg some (by kernel_rfl))
  t0 := by kernel_rfl
  a0 := fun w => by kernel_rfl
  z0 := fun w => by kernel_rfl
  v0 := fun w => by kernel_rfl
  i0 := by kernel_rfl
  t3 := by kernel_rfl
  a3 := fun w => by kernel_rfl
  z3 := fun w => by kernel_rfl
  v3 := fun w => by kernel_rfl
  i3 := by kernel_rfl
  t4 := by kernel_rfl
  a4 := fun w => by kernel_rfl
  z4 := fun w => by kernel_rfl
  v4 := fun w => by kernel_rfl
  i4 := by kernel_rfl
  t5 := by kernel_rfl
  a5 := fun w => by kernel_rfl
  z5 := fun w => by kernel_rfl
  v5 := fun w => by kernel_rfl
  i5 := by kernel_rfl
  t22 := by kernel_rfl
  a22 := fun w => by kernel_rfl
  z22 := fun w => by kernel_rfl
  v22 := fun w => by kernel_rfl
  i22 := by kernel_rfl
  t25 := by kernel_rfl
  a25 := fun w => by kernel_rfl
  z25 := fun w => by kernel_rfl
  v25 := fun w => by kernel_rfl
  i25 := by kernel_rfl
  t27 := by kernel_rfl
  a27 := fun w => by kernel_rfl
  z27 := fun w => by kernel_rfl
  v27 := fun w => by kernel_rfl
  i27 := by kernel_rfl
  t53 := by kernel_rfl
  a53 := fun w => by kernel_rfl
  z53 := fun w => by kernel_rfl
  v53 := fun w => by kernel_rfl
  i53 := by kernel_rfl
  t54 := by kernel_rfl
  a54 := fun w => by kernel_rfl
  z54 := fun w => by kernel_rfl
  g0 := by kernel_rfl
  g1 := by kernel_rfl }
def tabVs : List Value := Lib.deBruijn64tab.map fun n : Nat => Value.int .u8 (n : Int)
def gloTZ (T : Nat) : List (Nat × Res) := [(0, .glo 1 T tabVs)]
theorem tz_does (x : Nat) (hx : x < 18446744073709551616) (T : Nat) : DoesF Tryz.prog 130 [.c (.lit (.int .u64 x))] (gloTZ T) (sI (Lib.ctz 64 x : Nat)) [] := by
  intro o h args w hs
  have h1 : args.getD 0 undef = .int .u64 x := (show RepV o w (.lit (.int .u64 x)) _ from hs.slot 0 (.e (.c (.lit (.int .u64 x)))) rfl).1
  have hargs := args1 (by exact hs.size) h1
  subst hargs
  have hg : o 1 = .sh ∧ w.heap[1]? = some (.cells tabVs.toArray T (0, 0)) := hs.res 0 (.glo 1 T tabVs) rfl
  have hT : TabAt (layTZ_ren.g 1) Lib.deBruijn64tab w := fun j hj => by
    have e : w.cell? ⟨1, j, none⟩ = tabVs[j]? := by simp [World.cell?, hg.2]
    show w.cell? ⟨1, j, none⟩ = _
    rw [e, tabVs, List.getElem?_map, List.getElem?_eq_getElem hj]
    simp [List.getD_eq_getElem?_getD, hj]
  refine (Any7.bits_TrailingZeros layTZ x hx w fun _ => hT).mono ?_
  rintro e w' ⟨rfl, rfl⟩
  refine ⟨_, o, h, rfl, ⟨rfl, hs.tags, fun s x hl => ?_, fun i r hl => by simp [lk] at hl⟩, Ext.refl o _⟩
  rw [lk_cons] at hl
  split at hl
  · rename_i e; subst e; cases hl; exact ⟨rfl, rfl⟩
  · simp [lk] at hl
theorem least05_does (s : Int) (T : Nat) : DoesF Tryz.prog 58 [iV s] (gloTZ T) (sI (leaP s)) [] := by
  refine DoesF.body _ Tryz.func58 rfl rfl rfl rfl ?_
  have hv := validS_iff.1 (valid_cutS s)
  obtain ⟨n, hn⟩ := Int.eq_ofNat_of_zero_le hv.1
  refine KW.goIf lay_ok S3_ok 100 rfl (by simp) rfl trivial (fun h => ?_) fun h => ?_
  · have h1 : cutS s = 0 := by simpa using h
    refine KW.goRet lay_ok S3_ok 100 rfl rfl ?_ (by simp) trivial
    rw [leaP, if_pos h1]; rfl
  have h1 : ¬ cutS s = 0 := by simpa using h
  refine KW.go lay_ok S3_ok 100 rfl (by simp [inK]; omega) ?_
  rw [show leaP s = (Lib.ctz 64 n : Nat) by rw [leaP, if_neg h1, hn, Int.toNat_natCast]]
  refine KW.call0 (tz_does n (by omega) T) (enters Tryz.func130 rfl rfl) [(0, 0)] [] [] (.inl rfl) rfl rfl rfl rfl rfl trivial ⟨⟨_, _, rfl, trivial, .conv (by rw [hn]; exact CVEq.refl _)⟩, trivial⟩ rfl ⟨rfl, trivial⟩ rfl trivial rfl rfl (.inl rfl) ?_
  exact KW.goRet lay_ok S3_ok 100 rfl rfl rfl (by simp) trivial
theorem rleast05_does (s : Int) : DoesF Tryz.prog 166 [iV s] [] (sI (headD (elemsS s))) [] := by
  refine DoesF.body _ Tryz.func166 rfl rfl rfl rfl ?_
  refine KW.goLpR lay_ok S3_ok 100 rfl (I := fun q : Nat => ⟨Tryz.f166.ntmps, [(6, .e (lV (elemsS s))), (7, sI (elemsS s).length), (8, sI q)], []⟩)
    (R := fun q => q = 0) (m := fun q => 0) 0 [] rfl rfl ⟨rfl, rfl, rfl, trivial⟩ (by simp) rfl trivial ?_
  rintro q rfl
  refine KW.goIf lay_ok S3_ok 100 rfl (by simp) rfl trivial (fun h => ?_) fun h => ?_
  · have hq : 0 < (elemsS s).length := by have := of_decide_eq_true h; omega
    refine KW.goOutR lay_ok S3_ok 100 rfl (by simpa using hq) ?_
    refine KW.goRet lay_ok S3_ok 100 rfl rfl ?_ (by simp) trivial
    cases hl : elemsS s with
    | nil => rw [hl] at hq; exact absurd hq (Nat.lt_irrefl 0)
    | cons x r => rfl
  · have hq : (elemsS s).length = 0 := by have := of_decide_eq_false h; omega
    refine KW.goOut lay_ok S3_ok 100 rfl (by simp) ?_
    refine KW.goRet lay_ok S3_ok 100 rfl rfl ?_ (by simp) trivial
    rw [List.length_eq_zero_iff.1 hq]; rfl
def S12 : Fns := (166, fI (fun s => sI (headD (elemsS s))) fun _ => True) ::
  S3
theorem S12_ok : FnsOk Tryz.prog S12 := .cons (S3_ok) Tryz.func166 rfl rfl (fI_ok fun s _ => rleast05_does s)


end Go.Proofs.YtdeoicedbphgoaaGreatDoor
