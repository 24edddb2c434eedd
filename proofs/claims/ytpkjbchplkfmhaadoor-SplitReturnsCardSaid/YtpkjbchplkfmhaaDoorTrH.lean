/-
  Leaves, and the leaf of a state: contracts.
-/
import Derived.Test.YtpkjbchplkfmhaaDoorTrG
set_option linter.unusedSectionVars false
set_option linter.unusedVariables false
set_option linter.unusedSimpArgs false
namespace Go.Pu
open Go.Sy
variable [Drw]
theorem iand_1 (x : Int) : iand .i64 x 1 = 0 ∨ iand .i64 x 1 = 1 := by
  have h1 : ∀ i, bit 1 i = decide (0 = i) := fun i => by
    have := one_bit (i := 0) (by decide) i
    simpa [one, ishl] using this
  cases hb : bit x 0 with
  | false =>
    left
    rw [iand_zero]
    intro i hi hx
    rw [h1, decide_eq_false_iff_not]
    rintro rfl
    rw [hb] at hx; cases hx
  | true =>
    right
    refine rng_ext (by simp) (by simp [rng, inK]) fun i hi => ?_
    rw [bit_iand, h1]
    by_cases e : 0 = i
    · subst e; rw [hb]; rfl
    · simp [e]
theorem bitB_no {s v : Int} (h : bitB s v = false) : iand .i64 (ishr s v) 1 = 0 := by
  rcases iand_1 (ishr s v) with h1 | h1
  · exact h1
  · unfold bitB at h; rw [h1] at h; cases h
theorem bitB_yes {s v : Int} (h : bitB s v = true) : iand .i64 (ishr s v) 1 = 1 := by unfold bitB at h; simpa using h
end Go.Pu
namespace Go.Proofs.YtpkjbchplkfmhaaDoor
open Go.Sy Go.Pu
variable [Drw]
abbrev cuV (yes no : Int) : EV := .ag [.lit (.int .i64 yes), .lit (.int .i64 no)]
theorem leafQ (yes no r : Int) : ∀ q, q < 3 → CVEq (nthD (.lit undef) (leafL ⟨yes, no, r⟩) q) (leafC ⟨yes, no, r⟩ q) := fun q hq =>
  match q, hq with
  | 0, _ => CVEq.refl _
  | 1, _ => CVEq.refl _
  | 2, _ => CVEq.refl _
theorem leaves_does (t : Tr) : gT t → ∀ (yes no : Int) (xs : List LeafP), (xs.length : Int) + cntN t ≤ 8192 → DoesF Tryd.prog 40 [.r 0, trV t, cuV yes no] [(0, .own 43 (leavesC xs))] (.e (.r 0)) [(0, .own 43 (leavesC (xs ++ lvs t yes no)))] := by
  induction t using Tr.ind with
  | h t ih =>
    intro hg yes no xs hx
    rw [lvs_eq]
    refine DoesF.body _ Tryd.func40 rfl rfl rfl rfl ?_
    refine KW.open 1 t rfl ?_
    refine KW.goIf lay_ok U4_ok 100 rfl (by simp) rfl trivial (fun h => ?_) fun h => ?_
    · have h0 : t.n = 0 := by simpa using h
      rw [if_neg (by omega)]
      have pc := cntN_pos t
      refine KW.go lay_ok U4_ok 100 rfl (by simp; omega) ?_
      refine KW.catG 17 ⟨yes, no, t.r⟩ rfl ?_ ?_
      · exact leafQ yes no t.r
      exact KW.fin [(0, 17)] rfl rfl rfl ⟨rfl, trivial⟩
    · have h0 : t.n ≠ 0 := by simpa using h
      obtain ⟨h2, v0, v1, _, g0, g1⟩ := gT_kids hg h0
      have one := shl_rng24 v0 v1
      have p0 := cntN_pos (t.k 0)
      have p1 := cntN_pos (t.k 1)
      have l0 := lvs_len (t.k 0) yes (ior .i64 no (ishl 1 t.v))
      have r0 := szT_rng (t.k 0)
      rw [cntN_eq, if_pos h2] at hx
      rw [if_pos h2]
      refine KW.goDS lay_ok U4_ok rfl 100 rfl 14 rfl (by decide +kernel) (by decide +kernel) rfl (by simp) (by simp [inK, bitsI]; omega) ?_
      refine KW.call0 (ih 0 (by omega) g0 yes (ior .i64 no (ishl 1 t.v)) xs (by omega)) (enters Tryd.func40 rfl rfl) [(0, 0)] [(0, 32)] [] (.inl rfl) rfl rfl rfl rfl rfl trivial
        ⟨⟨_, _, rfl, trivial, (show Mt _ _ _ (EV.ren [(0, 0)] (.r 0)) (.r 0) from .same)⟩, ⟨_, _, rfl, trivial, (show Mt _ _ _ (EV.ren [(0, 0)] (trV (t.k 0))) (trV (t.k 0)) from .same)⟩, ⟨_, _, rfl, trivial, (show Mt _ _ _ (EV.ren [(0, 0)] (cuV yes (ior .i64 no (ishl 1 t.v)))) (cuV yes (ior .i64 no (ishl 1 t.v))) from .same)⟩, trivial⟩ rfl ⟨rfl, trivial⟩ rfl ⟨.inl rfl, trivial⟩ rfl rfl (.inl rfl) ?_
      refine KW.goDS lay_ok U4_ok rfl 100 rfl 14 rfl (by decide +kernel) (by decide +kernel) rfl (by simp) (by simp [inK, bitsI]; omega) ?_
      refine KW.call0 (ih 1 (by omega) g1 (ior .i64 yes (ishl 1 t.v)) no (xs ++ lvs (t.k 0) yes (ior .i64 no (ishl 1 t.v))) (by rw [List.length_append]; omega)) (enters Tryd.func40 rfl rfl) [(0, 32)] [(0, 47)] [] (.inl rfl) rfl rfl rfl rfl rfl trivial
        ⟨⟨_, _, rfl, trivial, (show Mt _ _ _ (EV.ren [(0, 32)] (.r 0)) (.r 0) from .same)⟩, ⟨_, _, rfl, trivial, (show Mt _ _ _ (EV.ren [(0, 32)] (trV (t.k 1))) (trV (t.k 1)) from .same)⟩, ⟨_, _, rfl, trivial, (show Mt _ _ _ (EV.ren [(0, 32)] (cuV (ior .i64 yes (ishl 1 t.v)) no)) (cuV (ior .i64 yes (ishl 1 t.v)) no) from .same)⟩, trivial⟩ rfl ⟨rfl, trivial⟩ rfl ⟨.inl rfl, trivial⟩ rfl rfl (.inl rfl) ?_
      rw [← List.append_assoc]
      exact KW.goRetR lay_ok U4_ok 100 rfl [(0, 47)] rfl rfl rfl (by simp) (by exact ⟨rfl, trivial⟩)
theorem leaves0_does (t : Tr) : gT t → ∀ (yes no : Int), cntN t ≤ 8192 → DoesF Tryd.prog 40 [.c (.lit (.slice none 0 0)), trV t, cuV yes no] [] (.e (.r 0)) [(0, .own 43 (leavesC (lvs t yes no)))] := by
  induction t using Tr.ind with
  | h t ih =>
    intro hg yes no hx
    rw [lvs_eq]
    refine DoesF.body _ Tryd.func40 rfl rfl rfl rfl ?_
    refine KW.open 1 t rfl ?_
    refine KW.goIf lay_ok U4_ok 100 rfl (by simp) rfl trivial (fun h => ?_) fun h => ?_
    · have h0 : t.n = 0 := by simpa using h
      rw [if_neg (by omega)]
      refine KW.go lay_ok U4_ok 100 rfl (by simp) ?_
      refine KW.convR 17 (leavesC [⟨yes, no, t.r⟩]) rfl rfl (fun e q he hq => ?_) ?_
      · obtain rfl : e = 0 := by omega
        exact (show CVEq (nthD (.lit undef) (leafL ⟨yes, no, t.r⟩) (0 * 3 + q)) (leafC ⟨yes, no, t.r⟩ q) from by rw [Nat.zero_mul, Nat.zero_add]; exact leafQ yes no t.r q hq)
      exact KW.fin [(0, 17)] rfl rfl rfl ⟨rfl, trivial⟩
    · have h0 : t.n ≠ 0 := by simpa using h
      obtain ⟨h2, v0, v1, _, g0, g1⟩ := gT_kids hg h0
      have one := shl_rng24 v0 v1
      have p0 := cntN_pos (t.k 0)
      have p1 := cntN_pos (t.k 1)
      have l0 := lvs_len (t.k 0) yes (ior .i64 no (ishl 1 t.v))
      have r0 := szT_rng (t.k 0)
      rw [cntN_eq, if_pos h2] at hx
      rw [if_pos h2]
      refine KW.goDS lay_ok U4_ok rfl 100 rfl 14 rfl (by decide +kernel) (by decide +kernel) rfl (by simp) (by simp [inK, bitsI]; omega) ?_
      refine KW.callO0 (ih 0 (by omega) g0 yes (ior .i64 no (ishl 1 t.v)) (by omega)) (enters Tryd.func40 rfl rfl) [] (.inl rfl) rfl rfl rfl rfl rfl trivial
        ⟨⟨_, _, rfl, trivial, .conv (CVEq.refl _)⟩, ⟨_, _, rfl, trivial, (show Mt _ _ _ (EV.ren [] (trV (t.k 0))) (trV (t.k 0)) from .same)⟩, ⟨_, _, rfl, trivial, (show Mt _ _ _ (EV.ren [] (cuV yes (ior .i64 no (ishl 1 t.v)))) (cuV yes (ior .i64 no (ishl 1 t.v))) from .same)⟩, trivial⟩ rfl (.inl rfl) ?_
      refine KW.goDS lay_ok U4_ok rfl 100 rfl 14 rfl (by decide +kernel) (by decide +kernel) rfl (by simp) (by simp [inK, bitsI]; omega) ?_
      refine KW.call0 (leaves_does (t.k 1) g1 (ior .i64 yes (ishl 1 t.v)) no (lvs (t.k 0) yes (ior .i64 no (ishl 1 t.v))) (by omega)) (enters Tryd.func40 rfl rfl) [(0, 32)] [(0, 47)] [] (.inl rfl) rfl rfl rfl rfl rfl trivial
        ⟨⟨_, _, rfl, trivial, (show Mt _ _ _ (EV.ren [(0, 32)] (.r 0)) (.r 0) from .same)⟩, ⟨_, _, rfl, trivial, (show Mt _ _ _ (EV.ren [(0, 32)] (trV (t.k 1))) (trV (t.k 1)) from .same)⟩, ⟨_, _, rfl, trivial, (show Mt _ _ _ (EV.ren [(0, 32)] (cuV (ior .i64 yes (ishl 1 t.v)) no)) (cuV (ior .i64 yes (ishl 1 t.v)) no) from .same)⟩, trivial⟩ rfl ⟨rfl, trivial⟩ rfl ⟨.inl rfl, trivial⟩ rfl rfl (.inl rfl) ?_
      exact KW.goRetR lay_ok U4_ok 100 rfl [(0, 47)] rfl rfl rfl (by simp) (by exact ⟨rfl, trivial⟩)
def splL (t : Tr) (vars : Int) : List LeafP := if splE t vars = 0 then lvs t 0 0 else []
abbrev lvV (l : List LeafP) : EV := .c (leavesC l)
theorem leavesX_does (t : Tr) (vars : Int) : DoesF Tryd.prog 18 [trV t, iV vars] [] (.tup [lvV (splL t vars), eV (splE t vars)]) [] := by
  refine DoesF.body _ Tryd.func18 rfl rfl rfl rfl ?_
  refine KW.goIf lay_ok U4_ok 100 rfl (by simp) rfl trivial (fun h => ?_) fun h => ?_
  · have h0 : splE t vars ≠ 0 := by simpa using h
    refine KW.go lay_ok U4_ok 100 rfl (by simp) ?_
    refine KW.conv 4 (leavesC []) rfl ⟨rfl, rfl⟩ ?_
    refine KW.fin [] rfl rfl ?_ trivial
    simp only [splL, if_neg h0, unTr_cells]; rfl
  · have h0 : splE t vars = 0 := by simpa using h
    obtain ⟨hg, hc⟩ := splE_g h0
    refine KW.go lay_ok U4_ok 100 rfl (by simp) ?_
    refine KW.callO0 (leaves0_does t hg 0 0 (by omega)) (enters Tryd.func40 rfl rfl) [] (.inl rfl) rfl rfl rfl rfl rfl trivial
      ⟨⟨_, _, rfl, trivial, .conv (CVEq.refl _)⟩, ⟨_, _, rfl, trivial, (show Mt _ _ _ (EV.ren [] (trV t)) (trV t) from .same)⟩, ⟨_, _, rfl, trivial, (show Mt _ _ _ (EV.ren [] (cuV 0 0)) (cuV 0 0) from .same)⟩, trivial⟩ rfl (.inl rfl) ?_
    refine KW.frz1 15 rfl rfl rfl ?_
    refine KW.goRet lay_ok U4_ok 100 rfl rfl ?_ (by simp) trivial
    simp only [splL, if_pos h0, h0]; rfl

/-! the reference's leaves -/
theorem below_does (t : Tr) : gT t → ∀ (yes no : Int), cntN t ≤ 8192 → DoesF Tryd.prog 49 [trV t, cuV yes no] [] (.e (.r 0)) [(0, .own 43 (leavesC (lvs t yes no)))] := by
  induction t using Tr.ind with
  | h t ih =>
    intro hg yes no hx
    rw [lvs_eq]
    refine DoesF.body _ Tryd.func49 rfl rfl rfl rfl ?_
    refine KW.open 0 t rfl ?_
    refine KW.goIf lay_ok U4_ok 100 rfl (by simp) rfl trivial (fun h => ?_) fun h => ?_
    · have h0 : t.n = 0 := by simpa using h
      rw [if_neg (by omega)]
      refine KW.go lay_ok U4_ok 100 rfl (by simp) ?_
      refine KW.convR 15 (leavesC [⟨yes, no, t.r⟩]) rfl rfl (fun e q he hq => ?_) ?_
      · obtain rfl : e = 0 := by omega
        exact (show CVEq (nthD (.lit undef) (leafL ⟨yes, no, t.r⟩) (0 * 3 + q)) (leafC ⟨yes, no, t.r⟩ q) from by rw [Nat.zero_mul, Nat.zero_add]; exact leafQ yes no t.r q hq)
      exact KW.fin [(0, 15)] rfl rfl rfl ⟨rfl, trivial⟩
    · have h0 : t.n ≠ 0 := by simpa using h
      obtain ⟨h2, v0, v1, _, g0, g1⟩ := gT_kids hg h0
      have one := shl_rng24 v0 v1
      have p0 := cntN_pos (t.k 0)
      have p1 := cntN_pos (t.k 1)
      have l0 := lvs_len (t.k 0) yes (ior .i64 no (ishl 1 t.v))
      have r0 := szT_rng (t.k 0)
      have l1 := lvs_len (t.k 1) (ior .i64 yes (ishl 1 t.v)) no
      have r1 := szT_rng (t.k 1)
      rw [cntN_eq, if_pos h2] at hx
      rw [if_pos h2]
      refine KW.goDS lay_ok U4_ok rfl 100 rfl 13 rfl (by decide +kernel) (by decide +kernel) rfl (by simp) (by simp [inK, bitsI]; omega) ?_
      refine KW.callO0 (ih 0 (by omega) g0 yes (ior .i64 no (ishl 1 t.v)) (by omega)) (enters Tryd.func49 rfl rfl) [] (.inl rfl) rfl rfl rfl rfl rfl trivial
        ⟨⟨_, _, rfl, trivial, (show Mt _ _ _ (EV.ren [] (trV (t.k 0))) (trV (t.k 0)) from .same)⟩, ⟨_, _, rfl, trivial, (show Mt _ _ _ (EV.ren [] (cuV yes (ior .i64 no (ishl 1 t.v)))) (cuV yes (ior .i64 no (ishl 1 t.v))) from .same)⟩, trivial⟩ rfl (.inl rfl) ?_
      refine KW.goDS lay_ok U4_ok rfl 100 rfl 13 rfl (by decide +kernel) (by decide +kernel) rfl (by simp) (by simp [inK, bitsI]; omega) ?_
      refine KW.callO0 (ih 1 (by omega) g1 (ior .i64 yes (ishl 1 t.v)) no (by omega)) (enters Tryd.func49 rfl rfl) [] (.inl rfl) rfl rfl rfl rfl rfl trivial
        ⟨⟨_, _, rfl, trivial, (show Mt _ _ _ (EV.ren [] (trV (t.k 1))) (trV (t.k 1)) from .same)⟩, ⟨_, _, rfl, trivial, (show Mt _ _ _ (EV.ren [] (cuV (ior .i64 yes (ishl 1 t.v)) no)) (cuV (ior .i64 yes (ishl 1 t.v)) no) from .same)⟩, trivial⟩ rfl (.inl rfl) ?_
      generalize lvs (t.k 0) yes (ior .i64 no (ishl 1 t.v)) = a at *
      generalize lvs (t.k 1) (ior .i64 yes (ishl 1 t.v)) no = b at *
      rw [show leavesC (a ++ b) = catV (leavesC a) (leavesC b) from (catV_rows a b).symm]
      exact KW.goRetR lay_ok U4_ok 100 rfl [(0, 46)] rfl rfl rfl (by simp; omega) (by exact ⟨rfl, trivial⟩)
theorem rleavesX_does (t : Tr) (vars : Int) : DoesF Tryd.prog 29 [trV t, iV vars] [] (.tup [lvV (splL t vars), iV (splE t vars)]) [] := by
  refine DoesF.body _ Tryd.func29 rfl rfl rfl rfl ?_
  refine KW.goIf lay_ok U4_ok 100 rfl (by simp) rfl trivial (fun h => ?_) fun h => ?_
  · have h0 : splE t vars ≠ 0 := by simpa using h
    refine KW.go lay_ok U4_ok 100 rfl (by simp) ?_
    refine KW.conv 4 (leavesC []) rfl ⟨rfl, rfl⟩ ?_
    refine KW.fin [] rfl rfl ?_ trivial
    simp only [splL, if_neg h0, unTr_cells]; rfl
  · have h0 : splE t vars = 0 := by simpa using h
    obtain ⟨hg, hc⟩ := splE_g h0
    refine KW.go lay_ok U4_ok 100 rfl (by simp) ?_
    refine KW.callO0 (below_does t hg 0 0 (by omega)) (enters Tryd.func49 rfl rfl) [] (.inl rfl) rfl rfl rfl rfl rfl trivial
      ⟨⟨_, _, rfl, trivial, (show Mt _ _ _ (EV.ren [] (trV t)) (trV t) from .same)⟩, ⟨_, _, rfl, trivial, (show Mt _ _ _ (EV.ren [] (cuV 0 0)) (cuV 0 0) from .same)⟩, trivial⟩ rfl (.inl rfl) ?_
    refine KW.frz1 15 rfl rfl rfl ?_
    refine KW.goRet lay_ok U4_ok 100 rfl rfl ?_ (by simp) trivial
    simp only [splL, if_pos h0, h0]; rfl
/-! the leaf of a state -/
def atE (t : Tr) (vars s : Int) : Int := if splE t vars = 0 then if s < 0 ∨ ishl 1 vars ≤ s then 3 else 0 else splE t vars
def atV (t : Tr) (vars s : Int) : LeafP := if atE t vars s = 0 then atT s t 0 0 else leaf0
abbrev leV (l : LeafP) : EV := .ag (leafL l)
theorem shl_v {vars : Int} (h0 : 0 ≤ vars) (h1 : vars ≤ 24) : 1 ≤ ishl 1 vars ∧ ishl 1 vars ≤ 16777216 := by
  obtain ⟨n, rfl⟩ := Int.eq_ofNat_of_zero_le h0
  exact (by decide +kernel : ∀ n : Fin 25, 1 ≤ ishl 1 ((n.val : Nat) : Int) ∧ ishl 1 ((n.val : Nat) : Int) ≤ 16777216) ⟨n, by omega⟩
theorem at_does (t : Tr) (vars s : Int) : DoesF Tryd.prog 19 [trV t, iV vars, iV s] [] (.tup [leV (atV t vars s), eV (atE t vars s)]) [] := by
  refine DoesF.bodyC lay_ok _ Tryd.func19 rfl rfl rfl rfl ?_
  refine KW.goIf lay_ok U4_ok 100 rfl (by simp) rfl trivial (fun h => ?_) fun h => ?_
  · have h0 : splE t vars ≠ 0 := by simpa using h
    have e : atE t vars s = splE t vars := by rw [atE, if_neg h0]
    refine KW.goRetC lay_ok U4_ok 100 rfl rfl ?_ (by simp) trivial
    simp only [atV, e, if_neg h0, unTr_cells]; rfl
  · have h0 : splE t vars = 0 := by simpa using h
    obtain ⟨q1, q2, q3, q4⟩ := splE_ok h0
    have hs := shl_v q1 q2
    have hg := okT_gT q2 q3
    refine KW.goIf lay_ok U4_ok 100 rfl (by simp [inK, bitsI]; omega) rfl trivial (fun h => ?_) fun h => ?_
    · have h1 : s < 0 ∨ ishl 1 vars ≤ s := by simp at h; omega
      have e : atE t vars s = 3 := by rw [atE, if_pos h0, if_pos h1]
      refine KW.goRetC lay_ok U4_ok 100 rfl rfl ?_ (by simp) trivial
      simp only [atV, e]; rfl
    · have h1 : ¬ (s < 0 ∨ ishl 1 vars ≤ s) := by simp at h; omega
      have e : atE t vars s = 0 := by rw [atE, if_pos h0, if_neg h1]
      rw [atV, e, if_pos rfl]
      refine KW.goLpR lay_ok U4_ok 100 rfl (I := fun q : Tr × Int × Int => ⟨Tryd.f19.ntmps, [(2, sI s), (3, .e (.r 3)), (6, .e (.r 6)), (9, .e (.r 9))], [(3, .box 25 [iV q.1.v, .c q.1.ks, iV q.1.r] none), (6, .box 43 [iV 0, iV 0, iV 0] none), (9, .box 41 [iV q.2.1, iV q.2.2] none)]⟩)
        (R := fun q => gT q.1 ∧ atT s q.1 q.2.1 q.2.2 = atT s t 0 0) (m := fun q => (cntN q.1).toNat) (t, 0, 0) [(3, 3), (6, 6), (9, 9)] rfl rfl ⟨rfl, rfl, rfl, rfl, trivial⟩ (by simp) ⟨hg, rfl⟩ (by exact ⟨rfl, rfl, rfl, trivial⟩) ?_
      rintro ⟨u, yes, no⟩ ⟨g1, g2⟩
      simp only at g1 g2
      refine KW.convB 3 1 u.ksx rfl rfl u.ks_x ?_
      rw [atT_eq] at g2
      refine KW.goIf lay_ok U4_ok 100 rfl (by simp) rfl trivial (fun h => ?_) fun h => ?_
      · have hn : u.n ≠ 0 := by simp at h; omega
        obtain ⟨n2, v0, v1, _, k0, k1⟩ := gT_kids g1 hn
        have one := shl_rng24 v0 v1
        have pc := cntN_eq u
        have p0 := cntN_pos (u.k 0)
        have p1 := cntN_pos (u.k 1)
        rw [if_pos n2] at pc g2
        refine KW.goIf lay_ok U4_ok 100 rfl (by simp [bitsI]; omega) rfl trivial (fun h => ?_) fun h => ?_
        · have hb : bitB s u.v = true := h
          have e1 := bitB_yes hb
          rw [if_pos hb] at g2
          refine KW.goDS lay_ok U4_ok rfl 100 rfl 7 rfl (by decide +kernel) (by decide +kernel) rfl (by simp) (by simp [inK, bitsI]; omega) ?_
          refine KW.goToR lay_ok U4_ok 100 rfl (u.k 1, ior .i64 yes (ishl 1 u.v), no) [(3, 3), (6, 6), (9, 9)] rfl rfl ⟨rfl, rfl, rfl, rfl, trivial⟩ (by simp only [e1]; simp; omega) ⟨⟨k1, g2⟩, by simp only; omega⟩ ⟨?_, rfl, rfl, trivial⟩
          simp only [e1]; rfl
        · have hb : bitB s u.v = false := h
          have e1 := bitB_no hb
          rw [if_neg (by rw [hb]; decide)] at g2
          refine KW.goDS lay_ok U4_ok rfl 100 rfl 7 rfl (by decide +kernel) (by decide +kernel) rfl (by simp) (by simp [inK, bitsI]; omega) ?_
          refine KW.goToR lay_ok U4_ok 100 rfl (u.k 0, yes, ior .i64 no (ishl 1 u.v)) [(3, 3), (6, 6), (9, 9)] rfl rfl ⟨rfl, rfl, rfl, rfl, trivial⟩ (by simp only [e1]; simp; omega) ⟨⟨k0, g2⟩, by simp only; omega⟩ ⟨?_, rfl, rfl, trivial⟩
          simp only [e1]; rfl
      · have hn : u.n = 0 := by simp at h; omega
        rw [if_neg (by omega)] at g2
        rw [← g2]
        refine KW.goOut lay_ok U4_ok 100 rfl (by simp) ?_
        exact KW.goRetC lay_ok U4_ok 100 rfl rfl rfl (by simp) trivial

def unLs : CV → List LeafP
  | .sl n _ f => (List.range n).map fun e => ⟨cvInt (f e 0), cvInt (f e 1), cvInt (f e 2)⟩
  | _ => []
def isLs (x : CV) : Prop := CVEq x (leavesC (unLs x))
@[simp] theorem unLs_leavesC (l : List LeafP) : unLs (leavesC l) = l := by
  unfold unLs leavesC rows
  refine List.ext_getElem (by simp) fun j h1 h2 => ?_
  simp only [List.getElem_map, List.getElem_range]
  have e : l.getD j leaf0 = l[j] := by simp [List.getD_eq_getElem?_getD, h2]
  rw [e]; rfl
@[simp] theorem isLs_leavesC (l : List LeafP) : isLs (leavesC l) := by unfold isLs; rw [unLs_leavesC]; exact CVEq.refl _
def fLsLs (g : List LeafP → List LeafP → SV) (p : List LeafP → List LeafP → Prop) : List EV → Option (SV × Prop)
  | [.c x, .c y] => some (g (unLs x) (unLs y), isLs x ∧ isLs y ∧ p (unLs x) (unLs y))
  | _ => none
theorem fLsLs_ok {P : Program} {f : FuncId} {g : List LeafP → List LeafP → SV} {p : List LeafP → List LeafP → Prop} (h : ∀ a b, p a b → DoesF P f [lvV a, lvV b] [] (g a b) []) : ∀ ys y φ, fLsLs g p ys = some (y, φ) → φ → DoesF P f ys [] y [] := by
  intro ys y φ he hφ
  unfold fLsLs at he
  split at he
  · simp only [Option.some.injEq, Prod.mk.injEq] at he
    obtain ⟨rfl, rfl⟩ := he
    refine DoesF.conv ?_ (h _ _ hφ.2.2)
    exact ⟨hφ.1, hφ.2.1, trivial⟩
  · cases he
theorem sameLeaves_does (a b : List LeafP) : DoesF Tryd.prog 34 [lvV a, lvV b] [] (sB (decide (a = b))) [] := by
  refine DoesF.body _ Tryd.func34 rfl rfl rfl rfl ?_
  refine KW.len 0 rfl rfl fun hla => ?_
  refine KW.goIf lay_ok U4_ok 100 rfl (by simp) rfl trivial (fun h => ?_) fun h => ?_
  · refine KW.goRet lay_ok U4_ok 100 rfl rfl ?_ (by simp) trivial
    have hne : a ≠ b := fun e => by subst e; simp at h
    rw [decide_eq_false hne]; rfl
  · have hl : a.length = b.length := by simp at h; omega
    refine KW.goLp lay_ok U4_ok 100 rfl (I := fun q : Nat => ⟨Tryd.f34.ntmps, [(0, .e (lvV a)), (1, .e (lvV b)), (12, sI a.length), (13, sI q)], []⟩) (R := fun q => q ≤ a.length ∧ a.take q = b.take q) (m := fun q => a.length - q) 0 rfl ⟨rfl, rfl, rfl, rfl, trivial⟩ (by simp) ⟨by simp, by simp⟩ trivial ?_
    rintro q ⟨h1, h2⟩
    refine KW.goIf lay_ok U4_ok 100 rfl (by simp) rfl trivial (fun h => ?_) fun h => ?_
    · have hq : q < a.length := by simpa using h
      have hq' : q < b.length := by omega
      have h3 : a.getD q leaf0 = a[q] := by simp [List.getD_eq_getElem?_getD, hq]
      have h4 : b.getD q leaf0 = b[q] := by simp [List.getD_eq_getElem?_getD, hq']
      refine KW.goD lay_ok U4_ok rfl 100 rfl (by decide +kernel) rfl (by simp) (by simp; omega) ?_
      refine KW.goIf lay_ok U4_ok 100 rfl (by simp) rfl trivial (fun h => ?_) fun h => ?_
      · refine KW.goOutR lay_ok U4_ok 100 rfl (by simp) ?_
        refine KW.goRet lay_ok U4_ok 100 rfl rfl ?_ (by simp) trivial
        have hne : a ≠ b := fun e => by subst e; simp at h
        rw [decide_eq_false hne]; rfl
      · refine KW.goTo lay_ok U4_ok 100 rfl (q + 1) rfl ⟨rfl, rfl, rfl, rfl, trivial⟩ (by simp [inK]; omega) ⟨⟨by omega, ?_⟩, by omega⟩ trivial
        have e : a[q] = b[q] := by
          have h5 : (!decide ([(a.getD (Int.toNat (q : Int)) leaf0).yes, (a.getD (Int.toNat (q : Int)) leaf0).no, (a.getD (Int.toNat (q : Int)) leaf0).reason] = [(b.getD (Int.toNat (q : Int)) leaf0).yes, (b.getD (Int.toNat (q : Int)) leaf0).no, (b.getD (Int.toNat (q : Int)) leaf0).reason])) = false := h
          rw [Int.toNat_natCast, h3, h4] at h5
          simp only [Bool.not_eq_false', decide_eq_true_eq, List.cons.injEq, and_true] at h5
          generalize a[q] = x at h5
          generalize b[q] = y at h5
          cases x; cases y; simp_all
        rw [List.take_succ_eq_append_getElem hq, List.take_succ_eq_append_getElem hq', h2, e]
    · have hq : q = a.length := by simp at h; omega
      refine KW.goOut lay_ok U4_ok 100 rfl (by simp) ?_
      refine KW.goRet lay_ok U4_ok 100 rfl rfl ?_ (by simp) trivial
      have e : a = b := by
        rw [hq, List.take_length] at h2
        rw [h2, hl, List.take_length]
      rw [decide_eq_true e]; rfl
def U5 : Fns := (18, fTI (fun t v => .tup [lvV (splL t v), eV (splE t v)]) fun _ _ => True) ::
  (29, fTI (fun t v => .tup [lvV (splL t v), iV (splE t v)]) fun _ _ => True) ::
  (19, fTII (fun t v s => .tup [leV (atV t v s), eV (atE t v s)]) fun _ _ _ => True) ::
  (34, fLsLs (fun a b => sB (decide (a = b))) fun _ _ => True) ::
  (16, fTI (fun t m => sB (fwB t m)) fun _ m => 0 ≤ m ∧ m ≤ 4096) ::
  U4
theorem U5_ok : FnsOk Tryd.prog U5 := .cons (.cons (.cons (.cons (.cons (U4_ok) Tryd.func16 rfl rfl (fTI_ok fun t m h => few_does t m h.1 h.2)) Tryd.func34 rfl rfl (fLsLs_ok fun a b _ => sameLeaves_does a b)) Tryd.func19 rfl rfl (fTII_ok fun t v s _ => at_does t v s)) Tryd.func29 rfl rfl (fTI_ok fun t v _ => rleavesX_does t v)) Tryd.func18 rfl rfl (fTI_ok fun t v _ => leavesX_does t v)


theorem rat_does (t : Tr) (vars s : Int) : DoesF Tryd.prog 30 [trV t, iV vars, iV s] [] (.tup [leV (atV t vars s), iV (atE t vars s)]) [] := by
  refine DoesF.bodyC lay_ok _ Tryd.func30 rfl rfl rfl rfl ?_
  refine KW.goIf lay_ok U5_ok 100 rfl (by simp) rfl trivial (fun h => ?_) fun h => ?_
  · simp only [unTr_cells] at h ⊢
    have h0 : splE t vars ≠ 0 := by simpa using h
    have e : atE t vars s = splE t vars := by rw [atE, if_neg h0]
    refine KW.goRetC lay_ok U5_ok 100 rfl rfl ?_ (by simp) trivial
    simp only [atV, e, if_neg h0]; rfl
  · simp only [unTr_cells] at h ⊢
    have h0 : splE t vars = 0 := by simpa using h
    obtain ⟨q1, q2, q3, q4⟩ := splE_ok h0
    have hs := shl_v q1 q2
    have hg := okT_gT q2 q3
    refine KW.goIf lay_ok U5_ok 100 rfl (by simp [inK, bitsI]; omega) rfl trivial (fun h => ?_) fun h => ?_
    · have h1 : s < 0 ∨ ishl 1 vars ≤ s := by simp at h; omega
      have e : atE t vars s = 3 := by rw [atE, if_pos h0, if_pos h1]
      refine KW.goRetC lay_ok U5_ok 100 rfl rfl ?_ (by simp) trivial
      simp only [atV, e]; rfl
    · have h1 : ¬ (s < 0 ∨ ishl 1 vars ≤ s) := by simp at h; omega
      have e : atE t vars s = 0 := by rw [atE, if_pos h0, if_neg h1]
      have hm := atT_mem hg s
      have hL : splL t vars = lvs t 0 0 := by rw [splL, if_pos h0]
      rw [atV, e, if_pos rfl]
      have hlen := lvs_len t 0 0
      have hsz := szT_rng t
      have ho : ∀ l ∈ lvs t 0 0, leafIn l s = true → l = atT s t 0 0 := fun l hl h => at_only hg hl h
      rw [hL]
      generalize atT s t 0 0 = X at *
      generalize lvs t 0 0 = L at *
      refine KW.goLpR lay_ok U5_ok 100 rfl (I := fun q : Nat => ⟨Tryd.f30.ntmps, [(2, sI s), (6, .e (.r 6)), (31, .e (lvV L)), (32, sI L.length), (33, sI q)], [(6, .box 43 [iV 0, iV 0, iV 0] none)]⟩)
        (R := fun q => q ≤ L.length ∧ ∀ l ∈ L.take q, leafIn l s = false) (m := fun q => L.length - q) 0 [(6, 6)] rfl rfl ⟨rfl, rfl, rfl, rfl, rfl, trivial⟩ (by simp) ⟨Nat.zero_le _, by simp⟩ (by exact ⟨rfl, trivial⟩) ?_
      rintro q ⟨g1, g2⟩
      refine KW.goIf lay_ok U5_ok 100 rfl (by simp) rfl trivial (fun h => ?_) fun h => ?_
      · have hq : q < L.length := by simpa using h
        have hg : L.getD (Int.toNat (q : Int)) leaf0 = L[q] := by simp [List.getD_eq_getElem?_getD, hq]
        have hmq := List.getElem_mem hq
        have htk := List.take_succ_eq_append_getElem hq
        generalize L[q] = l at hg hmq htk
        refine KW.goIf lay_ok U5_ok 100 rfl (by simp; omega) rfl trivial (fun h => ?_) fun h => ?_
        · have h2 : leafIn l s = true := by rw [← hg]; exact h
          have := ho l hmq h2
          subst this
          refine KW.goOutR lay_ok U5_ok 100 rfl (by simp) ?_
          refine KW.goRetC lay_ok U5_ok 100 rfl rfl ?_ (by simp) trivial
          rw [← hg]; rfl
        · have h2 : leafIn l s = false := by rw [← hg]; exact h
          refine KW.goToR lay_ok U5_ok 100 rfl (q + 1) [(6, 6)] rfl rfl ⟨rfl, rfl, rfl, rfl, rfl, trivial⟩ (by simp [inK]; omega) ⟨⟨by omega, ?_⟩, by omega⟩ ⟨rfl, trivial⟩
          rw [htk]
          intro x hx
          rcases List.mem_append.1 hx with hx | hx
          · exact g2 x hx
          · rw [List.mem_singleton] at hx; subst hx; exact h2
      · exfalso
        have hq : q = L.length := by simp at h; omega
        rw [hq, List.take_length] at g2
        have := g2 X hm.1
        rw [hm.2] at this; cases this
def U6 : Fns := (30, fTII (fun t v s => .tup [leV (atV t v s), iV (atE t v s)]) fun _ _ _ => True) ::
  U5
theorem U6_ok : FnsOk Tryd.prog U6 := .cons (U5_ok) Tryd.func30 rfl rfl (fTII_ok fun t v s _ => rat_does t v s)


end Go.Proofs.YtpkjbchplkfmhaaDoor
