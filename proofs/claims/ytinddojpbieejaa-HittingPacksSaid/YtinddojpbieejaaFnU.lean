/-
  Hitting sets: Cheapest of the code and of the specification.
-/
import Derived.Test.YtinddojpbieejaaFnT
set_option linter.unusedVariables false
set_option linter.unusedSimpArgs false
namespace Go.Proofs.Ytinddojpbieejaa
open Go.Sy Go.Pu

theorem bitLen_top {n k : Nat} (h1 : 2 ^ k ≤ n) (h2 : n < 2 ^ (k + 1)) (h : n < 2 ^ 64) : Lib.bitLen n = k + 1 := by
  rw [Lib.bitLen_shift k n h1 h]
  have e : n / 2 ^ k = 1 := by
    rw [Nat.div_eq_of_lt_le] <;> omega
  rw [e]; rfl
theorem last_cut (s : Int) : ∀ k, k ≤ 24 → lastD (elemsN s k) = ((Lib.bitLen ((cutS s).toNat % 2 ^ k) : Nat) : Int) - 1
  | 0, _ => by simp [elemsN, lastD, Nat.mod_one]; decide
  | k + 1, hk => by
    have h := validS_iff.1 (valid_cutS s)
    have hb : bit s k = (cutS s).toNat.testBit k := by
      have e := bit_cutS s k
      have hk' : decide (k < 24) = true := by simp; omega
      rw [hk', Bool.and_true] at e
      rw [← e]
      obtain ⟨n, hn⟩ := Int.eq_ofNat_of_zero_le h.1
      rw [hn, bit_nat (by omega)]; simp
    have hm : (cutS s).toNat % 2 ^ (k + 1) = (cutS s).toNat % 2 ^ k + if bit s k = true then 2 ^ k else 0 := by
      rw [Nat.mod_pow_succ, hb, Nat.testBit_eq_decide_div_mod_eq]
      rcases Nat.mod_two_eq_zero_or_one ((cutS s).toNat / 2 ^ k) with e | e <;> simp [e]
    rw [elemsN_succ, hm]
    cases hbb : bit s k with
    | false => simp; exact last_cut s k (by omega)
    | true =>
      have h1 : (cutS s).toNat % 2 ^ k < 2 ^ k := Nat.mod_lt _ (Nat.two_pow_pos k)
      have h2 : 2 ^ (k + 1) = 2 ^ k + 2 ^ k := by rw [Nat.pow_succ]; omega
      have h3 : 2 ^ (k + 1) ≤ 2 ^ 24 := Nat.pow_le_pow_right (by decide) hk
      rw [bitLen_top (k := k) (by simp) (by simp; omega) (by simp; omega)]
      simp [lastD]
theorem grt_last (s : Int) : grtS s = lastD (elemsS s) := by
  rw [elemsS, last_cut s 24 (Nat.le_refl _), grtS, Nat.mod_eq_of_lt]
  have := validS_iff.1 (valid_cutS s)
  omega
theorem le_last (s : Int) : ∀ k, ∀ x ∈ elemsN s k, x ≤ lastD (elemsN s k)
  | 0, x, hx => by simp [elemsN] at hx
  | k + 1, x, hx => by
    rw [elemsN_succ] at hx ⊢
    cases hb : bit s k with
    | false => rw [hb] at hx; simp at hx ⊢; exact le_last s k x hx
    | true =>
      simp only [hb, if_true, lastD, List.getLastD_concat] at hx ⊢
      rcases List.mem_append.1 hx with h | h
      · unfold elemsN at h
        simp only [List.mem_map, List.mem_filter, List.mem_range] at h
        obtain ⟨i, hi, rfl⟩ := h
        omega
      · simp at h; omega

/-- the costs with zeros behind -/
def fullC (cost : List Int) (k : Nat) : List Int := cost ++ List.replicate k 0
theorem cst_full (cost : List Int) (k : Nat) : cst (fullC cost k) = cst cost := by
  funext i
  unfold cst fullC
  rw [List.getD_eq_getElem?_getD, List.getD_eq_getElem?_getD, List.getElem?_append]
  split
  · rfl
  · rename_i h
    rw [List.getElem?_replicate, List.getElem?_eq_none (by omega)]
    split <;> rfl
def badC (c : Int) : Bool := decide (c < 0) || decide (1048576 < c)
def costB (cost : List Int) : Bool := cost.all fun c => !badC c
theorem costOk_of {cost : List Int} (h : costB cost = true) : CostOk cost := fun i _ => by
  rw [List.getD_eq_getElem?_getD]
  cases hg : cost[i]? with
  | none => simp
  | some x =>
    have := List.all_eq_true.1 h x (List.mem_of_getElem? hg)
    simp [badC] at this
    simp; omega
theorem costOk_full {cost : List Int} (h : CostOk cost) (k : Nat) : CostOk (fullC cost k) := fun i hi => by
  have e := congrFun (cst_full cost k) i
  unfold cst at e
  rw [e]; exact h i hi
def chE (l cost : List Int) : Int := if listE l = 0 then if (cost.length : Int) ≤ grtS (orL 0 l) then 11 else if costB cost then bE (cst cost) l else 3 else listE l
def chR (l cost : List Int) : Int := if chE l cost = 0 then srchS (cst cost) (minS l) else 0
def chT (l cost : List Int) : Int := if chE l cost = 0 then sumS (cst cost) (srchS (cst cost) (minS l)) else 0

def T27 : Fns := (45, fLL (fun l C => .tup [iV (bR (cst C) l), iV (bT (cst C) l), eV (bE (cst C) l)]) fun l C => CostOk C ∧ 24 ≤ C.length) ::
  T26
theorem T27_ok : FnsOk Try.prog T27 := .cons (T26_ok) Try.func45 rfl rfl (fLL_ok fun l C h => best_does l C h.1 h.2)


theorem cheapest_does (l cost : List Int) (hb : cost.length ≤ 1099511627776) : DoesF Try.prog 29 [lV l, lV cost] [] (.tup [iV (chR l cost), iV (chT l cost), eV (chE l cost)]) [] := by
  refine DoesF.body _ Try.func29 rfl rfl rfl rfl ?_
  refine KW.goIf lay_ok T27_ok 100 rfl (by simp) rfl trivial (fun h => ?_) fun h => ?_
  · have h' : ¬ listE l = 0 := by simpa using h
    refine KW.goRet lay_ok T27_ok 100 rfl rfl ?_ (by simp) trivial
    simp [SV.ren, renL, EV.ren, chR, chT, chE, h']
  · have h' : listE l = 0 := by simpa using h
    refine KW.goIf lay_ok T27_ok 100 rfl (by simp) rfl trivial (fun h => ?_) fun h => ?_
    · have h2 : (cost.length : Int) ≤ grtS (orL 0 l) := by simpa [h'] using h
      refine KW.goRet lay_ok T27_ok 100 rfl rfl ?_ (by simp) trivial
      simp [SV.ren, renL, EV.ren, chR, chT, chE, h', h2, errV]
    · have h2 : ¬ (cost.length : Int) ≤ grtS (orL 0 l) := by simpa [h'] using h
      refine KW.goLp lay_ok T27_ok 100 rfl (I := fun q : Nat => ⟨Try.f29.ntmps, [(0, .e (lV l)), (1, .e (lV cost)), (26, .e (lV cost)), (27, sI cost.length), (28, sI q)], []⟩) (R := fun q => q ≤ cost.length ∧ costB (cost.take q) = true) (m := fun q => cost.length - q) 0 rfl ⟨rfl, rfl, rfl, rfl, rfl, trivial⟩ (by simp) ⟨by simp, by simp [costB]⟩ trivial ?_
      rintro q ⟨g1, g2⟩
      refine KW.goIf lay_ok T27_ok 100 rfl (by simp) rfl trivial (fun h => ?_) fun h => ?_
      · have hq : q < cost.length := by simpa using h
        have hg : cost.getD (Int.toNat (q : Int)) 0 = cost[q] := by simp [List.getD_eq_getElem?_getD, hq]
        refine KW.goIf lay_ok T27_ok 100 rfl (by simp; omega) rfl trivial (fun h => ?_) fun h => ?_
        · simp only [hg] at h
          have h3 : badC cost[q] = true := h
          refine KW.goOutR lay_ok T27_ok 100 rfl (by simp) ?_
          refine KW.goRet lay_ok T27_ok 100 rfl rfl ?_ (by simp) trivial
          have h4 : costB cost = false := by
            rw [costB, List.all_eq_false]
            exact ⟨_, List.getElem_mem hq, by simp [h3]⟩
          simp [SV.ren, renL, EV.ren, chR, chT, chE, h', h2, h4, errV]
        · simp only [hg] at h
          have h3 : badC cost[q] = false := h
          refine KW.goTo lay_ok T27_ok 100 rfl (q + 1) rfl ⟨rfl, rfl, rfl, rfl, rfl, trivial⟩ (by simp [inK]; omega) ⟨⟨by omega, ?_⟩, by omega⟩ trivial
          unfold costB at g2 ⊢
          rw [List.take_succ_eq_append_getElem hq, List.all_append, g2]
          simp [h3]
      · have hq : q = cost.length := by simp at h; omega
        rw [hq, List.take_length] at g2
        have hco := costOk_of g2
        have hE : chE l cost = bE (cst cost) l := by simp [chE, h', h2, g2]
        unfold chR chT
        rw [hE]
        refine KW.goOut lay_ok T27_ok 100 rfl (by simp) ?_
        refine KW.go lay_ok T27_ok 100 rfl (by simp) ?_
        refine KW.callO0 (clone_does cost hb) (enters Try.func56 rfl rfl) [] (.inl rfl) rfl rfl rfl rfl rfl trivial ⟨⟨_, _, rfl, trivial, .conv (CVEq.refl _)⟩, trivial⟩ rfl (.inl rfl) ?_
        refine KW.goLpR lay_ok T27_ok 100 rfl (I := fun k : Nat => ⟨Try.f29.ntmps, [(0, .e (lV l)), (11, .e (.r 11))], [(11, .own 3 (ints (fullC cost k)))]⟩) (R := fun k => k ≤ 24) (m := fun k => 24 - k) 0 [(11, 41)] rfl rfl ⟨rfl, rfl, trivial⟩ (by simp) (by simp) ⟨own_cat1 _ (by simp [fullC]), trivial⟩ ?_
        rintro k hk
        have hfl : (fullC cost k).length = cost.length + k := by simp [fullC]
        refine KW.goIf lay_ok T27_ok 100 rfl (by simp) rfl trivial (fun h => ?_) fun h => ?_
        · have hlt : cost.length + k < 24 := by simp [hfl] at h; omega
          refine KW.goToR lay_ok T27_ok 100 rfl (k + 1) [(11, 47)] rfl rfl ⟨rfl, rfl, trivial⟩ (by simp only [inK, true_and, and_true, hfl]; simp; omega) ⟨by omega, by omega⟩ ⟨own_cat _ ?_, trivial⟩
          simp [fullC, List.replicate_succ']
        · have hge : 24 ≤ (fullC cost k).length := by simp [hfl] at h; omega
          refine KW.goOut lay_ok T27_ok 100 rfl (by simp) ?_
          refine KW.frz 11 [11] rfl rfl rfl ?_
          refine KW.goRet lay_ok T27_ok 100 rfl rfl ?_ ?_ trivial
          · simp [SV.ren, renL, EV.ren, cst_full, bR, bT]
          · simp [costOk_full hco, hge]

def T28 : Fns := (29, fLL (fun l cost => .tup [iV (chR l cost), iV (chT l cost), eV (chE l cost)]) fun l cost => cost.length ≤ 1099511627776) ::
  (57, fLIIL (fun M s b c => sI (searchF (cst c) M 25 s b)) fun M s b c => SPre M c ∧ validS s = true ∧ InL s c.length ∧ (0 ≤ b → InL b c.length) ∧ 25 ≤ ((25 : Nat) : Int) + sumS (fun _ => 1) s) ::
  T27
theorem T28_ok : FnsOk Try.prog T28 := .cons (.cons (T27_ok) Try.func57 rfl rfl (fLIIL_ok fun M s b c h => rsearch_does h.1 25 s b h.2.1 h.2.2.1 h.2.2.2.1 h.2.2.2.2)) Try.func29 rfl rfl (fLL_ok fun l cost h => cheapest_does l cost h)


theorem inL0 (n : Nat) : InL 0 n := fun i _ h => by simp at h
theorem cnt0 : 25 ≤ ((25 : Nat) : Int) + sumS (fun _ => 1) 0 := by rw [sum0]; decide
theorem spre {l cost : List Int} (h : listE l = 0) (h2 : ¬ (cost.length : Int) ≤ grtS (orL 0 l)) (hc : CostOk cost) : SPre (minS l) cost := by
  have hv : Val l := listE_valid h
  have hll := listE_len h
  have hml := minS_length l
  refine ⟨hv.minS, by omega, hc, fun t ht i hi hb => ?_⟩
  have htl := ((mem_minS hv t).1 ht).1
  have h3 : bit (orL 0 l) i = true := by
    rw [bit_orL, Bool.or_eq_true]
    exact .inr (List.any_eq_true.2 ⟨t, htl, hb⟩)
  have h4 := le_last (orL 0 l) 24 i (mem_elemsS.2 ⟨i, hi, h3, rfl⟩)
  rw [grt_last, elemsS] at h2
  omega
theorem rcheapest_does (l cost : List Int) : DoesF Try.prog 32 [lV l, lV cost] [] (.tup [iV (chR l cost), iV (chT l cost), iV (chE l cost)]) [] := by
  refine DoesF.body _ Try.func32 rfl rfl rfl rfl ?_
  refine KW.len 1 rfl rfl fun hlc => ?_
  refine KW.goIf lay_ok T28_ok 100 rfl (by simp) rfl trivial (fun h => ?_) fun h => ?_
  · have h' : ¬ listE l = 0 := by simpa using h
    refine KW.goRet lay_ok T28_ok 100 rfl rfl ?_ (by simp) trivial
    simp [SV.ren, renL, EV.ren, chR, chT, chE, h']
  · have h' : listE l = 0 := by simpa using h
    have hv : Val l := listE_valid h'
    have hll := listE_len h'
    have hml := minS_length l
    refine KW.goIf lay_ok T28_ok 100 rfl (by simp) rfl trivial (fun h => ?_) fun h => ?_
    · have h2 : (cost.length : Int) ≤ grtS (orL 0 l) := by rw [grt_last]; simpa [h'] using h
      refine KW.goRet lay_ok T28_ok 100 rfl rfl ?_ (by simp) trivial
      simp [SV.ren, renL, EV.ren, chR, chT, chE, h', h2]
    · have h2 : ¬ (cost.length : Int) ≤ grtS (orL 0 l) := by rw [grt_last]; simpa [h'] using h
      refine KW.goLp lay_ok T28_ok 100 rfl (I := fun q : Nat => ⟨Try.f32.ntmps, [(0, .e (lV l)), (1, .e (lV cost)), (28, .e (lV cost)), (29, sI cost.length), (30, sI q)], []⟩) (R := fun q => q ≤ cost.length ∧ costB (cost.take q) = true) (m := fun q => cost.length - q) 0 rfl ⟨rfl, rfl, rfl, rfl, rfl, trivial⟩ (by simp) ⟨by simp, by simp [costB]⟩ trivial ?_
      rintro q ⟨g1, g2⟩
      refine KW.goIf lay_ok T28_ok 100 rfl (by simp) rfl trivial (fun h => ?_) fun h => ?_
      · have hq : q < cost.length := by simpa using h
        have hg : cost.getD (Int.toNat (q : Int)) 0 = cost[q] := by simp [List.getD_eq_getElem?_getD, hq]
        refine KW.goIf lay_ok T28_ok 100 rfl (by simp; omega) rfl trivial (fun h => ?_) fun h => ?_
        · simp only [hg] at h
          have h3 : badC cost[q] = true := h
          refine KW.goOutR lay_ok T28_ok 100 rfl (by simp) ?_
          refine KW.goRet lay_ok T28_ok 100 rfl rfl ?_ (by simp) trivial
          have h4 : costB cost = false := by
            rw [costB, List.all_eq_false]
            exact ⟨_, List.getElem_mem hq, by simp [h3]⟩
          simp [SV.ren, renL, EV.ren, chR, chT, chE, h', h2, h4]
        · simp only [hg] at h
          have h3 : badC cost[q] = false := h
          refine KW.goTo lay_ok T28_ok 100 rfl (q + 1) rfl ⟨rfl, rfl, rfl, rfl, rfl, trivial⟩ (by simp [inK]; omega) ⟨⟨by omega, ?_⟩, by omega⟩ trivial
          unfold costB at g2 ⊢
          rw [List.take_succ_eq_append_getElem hq, List.all_append, g2]
          simp [h3]
      · have hq : q = cost.length := by simp at h; omega
        rw [hq, List.take_length] at g2
        have hco := costOk_of g2
        have hE : chE l cost = bE (cst cost) l := by simp [chE, h', h2, g2]
        have hS := spre h' h2 hco
        have hsr : searchF (cst cost) (leastS l) 25 0 (-1) = srchS (cst cost) (minS l) := by rw [← minS_eq hv]; rfl
        refine KW.goOut lay_ok T28_ok 100 rfl (by simp) ?_
        refine KW.goIf lay_ok T28_ok 100 rfl ?_ rfl trivial (fun h => ?_) fun h => ?_
        · simp only [unI_ints, isI_ints, true_and, and_true]
          rw [← minS_eq hv]
          exact ⟨by omega, hS, valid0, inL0 _, fun h => absurd h (by decide), cnt0⟩
        · simp only [unI_ints, hsr] at h
          have h5 : ¬ 0 ≤ srchS (cst cost) (minS l) := by
            have h6 : srchS (cst cost) (minS l) < 0 := by simpa using h
            omega
          refine KW.goRet lay_ok T28_ok 100 rfl rfl ?_ (by simp) trivial
          simp [SV.ren, renL, EV.ren, chR, chT, hE, bE, h', h5]
        · simp only [unI_ints, hsr] at h ⊢
          have h5 : 0 ≤ srchS (cst cost) (minS l) := by simpa using h
          have hin : InL (srchS (cst cost) (minS l)) cost.length := search_pres hS 25 (inL0 _) (fun h => absurd h (by decide)) h5
          refine KW.goRet lay_ok T28_ok 100 rfl rfl ?_ ?_ trivial
          · simp [SV.ren, renL, EV.ren, chR, chT, hE, bE, h', h5]
          · simp [hco, hin]
end Go.Proofs.Ytinddojpbieejaa
