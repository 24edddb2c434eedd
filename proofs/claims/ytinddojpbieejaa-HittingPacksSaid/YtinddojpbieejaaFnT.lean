/-
  Hitting sets: the code's search.
-/
import Derived.Test.YtinddojpbieejaaFnS
set_option linter.unusedVariables false
set_option linter.unusedSimpArgs false
namespace Go.Proofs.Ytinddojpbieejaa
open Go.Sy Go.Pu

/-- the search's cells -/
def sBox (M C : List Int) (x : SS) : List EV := [lV M, lV C, iV x.best, iV x.total, bV x.found]
abbrev sRes (M C : List Int) (x : SS) (b : Nat) : List (Nat × Res) := [(0, .box 74 (sBox M C x) (some b))]

theorem better_does (M C : List Int) (x : SS) (b : Nat) (s total : Int) : DoesF Try.prog 84 [.r 0, iV s, iV total] (sRes M C x b) (sB (betB x s total)) (sRes M C x b) := by
  refine DoesF.body _ Try.func84 rfl rfl rfl rfl ?_
  refine KW.goIf lay_ok T26_ok 100 rfl (by simp) rfl trivial (fun h => ?_) fun h => ?_
  · refine KW.goRetR lay_ok T26_ok 100 rfl [(0, 0)] rfl rfl ?_ (by simp) (by exact ⟨rfl, trivial⟩)
    have h' : (!x.found || decide (total ≠ x.total)) = true := by simpa using h
    unfold betB; rw [if_pos h']; simp [SV.ren, EV.ren]
  · refine KW.goRetR lay_ok T26_ok 100 rfl [(0, 0)] rfl rfl ?_ (by simp) (by exact ⟨rfl, trivial⟩)
    have h' : ¬ (!x.found || decide (total ≠ x.total)) = true := by simpa using h
    unfold betB; rw [if_neg h']; simp [SV.ren, EV.ren]

theorem goOpen {M : List Int} {a : Int} (hM : Val M) : firstS M a < 0 → firstS M a = -1 := by
  induction M with
  | nil => intro; rfl
  | cons x r ih =>
    rw [firstS]
    split
    · intro h; have := validS_iff.1 (hM x (.head _)); omega
    · exact ih fun y hy => hM y (.tail _ hy)
theorem from_does {M C : List Int} (hM : Val M) (hMl : M.length ≤ 1024) (hC : CostOk C) (hCl : 24 ≤ C.length) : ∀ (n : Nat) (a out total : Int) (x : SS) (b : Nat), validS a = true → 25 ≤ n + sumS (fun _ => 1) a → total = sumS (cst C) a →
    DoesF Try.prog 70 [.r 0, iV a, iV out, iV total] (sRes M C x b) (.tup []) (sRes M C (fromF (cst C) M n a out total x) b) := by
  intro n
  induction n with
  | zero => intro a out total x b ha hn; have := cnt_le a; omega
  | succ n ih =>
    intro a out total x b ha hn ht
    have htb := sumS_rng hC a
    rw [← ht] at htb
    refine DoesF.body _ Try.func70 rfl rfl rfl rfl ?_
    rw [fromF]
    refine KW.goIf lay_ok T26_ok 100 rfl (by simp) rfl trivial (fun h => ?_) fun h => ?_
    · refine KW.goRetR lay_ok T26_ok 100 rfl [(0, 0)] rfl rfl rfl (by simp) ?_
      have h' : (x.found && decide (x.total < total)) = true := by simpa using h
      rw [if_pos h']
      exact ⟨rfl, trivial⟩
    · have h' : ¬ (x.found && decide (x.total < total)) = true := by simpa using h
      rw [if_neg h']
      refine KW.goLpR lay_ok T26_ok 100 rfl (I := fun q : Nat => ⟨Try.f70.ntmps, [(0, .e (.r 0)), (1, sI a), (2, sI out), (3, sI total), (8, sI 0), (27, .e (lV M)), (28, sI M.length), (29, sI q)], sRes M C x b⟩)
        (R := fun q => q ≤ M.length ∧ firstS (M.drop q) a = firstS M a) (m := fun q => M.length - q) 0 [(0, 0)] rfl rfl ⟨rfl, rfl, rfl, rfl, rfl, rfl, rfl, rfl, trivial⟩ (by simp) ⟨by simp, by simp⟩ ⟨rfl, trivial⟩ ?_
      rintro q ⟨h1, h2⟩
      refine KW.goIf lay_ok T26_ok 100 rfl (by simp) rfl trivial (fun h => ?_) fun h => ?_
      · have hq : q < M.length := by simpa using h
        have hg : M.getD (Int.toNat (q : Int)) 0 = M[q] := by simp [List.getD_eq_getElem?_getD, hq]
        rw [List.drop_eq_getElem_cons hq, firstS] at h2
        refine KW.goIf lay_ok T26_ok 100 rfl (by simp; omega) rfl trivial (fun h => ?_) fun h => ?_
        · simp only [hg] at h
          have h3 : iand .i64 M[q] a = 0 := by simpa using h
          rw [if_pos h3] at h2
          have hx := (firstS_spec hM a).2
          have hpos : ¬ firstS M a < 0 := by rw [← h2]; have := validS_iff.1 (hM _ (List.getElem_mem hq)); omega
          obtain ⟨hx1, hx2⟩ := hx hpos
          rw [if_neg hpos, ← h2]
          have hin : bit M[q] = bit (firstS M a) := by rw [h2]
          refine KW.goIf lay_ok T26_ok 100 rfl (by simp <;> omega) rfl trivial (fun h => ?_) fun h => ?_
          · simp only [hg] at h
            have h4 : iandNot .i64 M[q] out = 0 := by simpa using h
            rw [if_pos h4]
            refine KW.goOutR lay_ok T26_ok 100 rfl (by simp) ?_
            exact KW.goRetR lay_ok T26_ok 100 rfl [(0, 0)] rfl rfl rfl (by simp) (by exact ⟨rfl, trivial⟩)
          · simp only [hg] at h
            have h4 : ¬ iandNot .i64 M[q] out = 0 := by simpa using h
            rw [if_neg h4]
            refine KW.goOut lay_ok T26_ok 100 rfl (by simp) ?_
            refine KW.goIf lay_ok T26_ok 100 rfl (by simp) rfl trivial (fun h => ?_) fun h => ?_
            · simp only [hg] at h
              exact absurd (by simpa using h) h4
            · refine KW.goLpR lay_ok T26_ok 100 rfl (I := fun p : (Int × SS) × Nat => ⟨Try.f70.ntmps, [(0, .e (.r 0)), (1, sI a), (2, sI p.1.1), (3, sI total), (8, sI (iandNot .i64 M[q] out)), (60, sI p.2)], sRes M C p.1.2 b⟩)
                (R := fun p => p.2 ≤ 24 ∧ fromL (fromF (cst C) M n) (cst C) a total (iandNot .i64 M[q] out) (List.range' p.2 (24 - p.2)) p.1.1 p.1.2 = fromL (fromF (cst C) M n) (cst C) a total (iandNot .i64 M[q] out) (List.range' 0 24) out x)
                (m := fun p => 24 - p.2) ((out, x), 0) [(0, 0)] rfl rfl ⟨rfl, rfl, rfl, rfl, (by rw [← hg]; rfl), rfl, trivial⟩ (by simp) ⟨by simp, rfl⟩ ⟨rfl, trivial⟩ ?_
              rintro ⟨⟨out', x'⟩, p⟩ ⟨g1, g2⟩
              simp only at g1 g2
              refine KW.goIf lay_ok T26_ok 100 rfl (by simp) rfl trivial (fun h => ?_) fun h => ?_
              · have hp : p < 24 := by simp at h; omega
                have h1k := one_inK hp
                have e : 24 - p = (24 - (p + 1)) + 1 := by omega
                rw [e, List.range'_succ, fromL] at g2
                refine KW.goIf lay_ok T26_ok 100 rfl (by simp) rfl trivial (fun h => ?_) fun h => ?_
                · have hb : bit (iandNot .i64 M[q] out) p = true := by rw [← hasB_nat _ hp]; exact h
                  rw [if_pos hb] at g2
                  have hbm : bit M[q] p = true := by rw [bit_iandNot', Bool.and_eq_true] at hb; exact hb.1
                  have hba := open_bit h3 hp hbm
                  have hv := valid_ior ha (one_valid hp)
                  have hcost := hC p hp
                  have hsum : sumS (cst C) (ior .i64 a (Pu.one p)) = total + cst C p := by rw [sumS_ior hba hp, ht]
                  refine KW.goDT lay_ok T26_ok rfl 100 rfl 15 rfl rfl rfl rfl rfl (by simp) ?_ ?_
                  · simp only [inK, bitsI, true_and, and_true, Int.toNat_natCast]
                    omega
                  · refine KW.call0 (ih (ior .i64 a (Pu.one p)) out' (total + cst C p) x' b hv (by rw [sumS_ior hba hp]; omega) hsum.symm) (enters Try.func70 rfl rfl) [(0, 0)] [(0, 0)] [] (.inl rfl) rfl rfl rfl rfl rfl trivial
                      ⟨⟨_, _, rfl, trivial, (show Mt _ _ _ (EV.ren [(0, 0)] (.r 0)) (.r 0) from .same)⟩, ⟨_, _, rfl, trivial, .conv (CVEq.refl _)⟩, ⟨_, _, rfl, trivial, .conv (CVEq.refl _)⟩, ⟨_, _, rfl, trivial, .conv (CVEq.refl _)⟩, trivial⟩ rfl ⟨rfl, trivial⟩ rfl ⟨.inr ⟨rfl, .inr ⟨_, _, _, _, b, rfl, rfl⟩⟩, trivial⟩ rfl rfl (.inl rfl) ?_
                    exact KW.goToR lay_ok T26_ok 100 rfl ((ior .i64 out' (Pu.one p), fromF (cst C) M n (ior .i64 a (Pu.one p)) out' (total + cst C p) x'), p + 1) [(0, 0)] rfl rfl ⟨rfl, rfl, rfl, rfl, rfl, rfl, trivial⟩ (by simp [inK, bitsI] <;> omega) ⟨⟨by simp only; omega, g2⟩, by simp only; omega⟩ ⟨rfl, trivial⟩
                · have hb : ¬ bit (iandNot .i64 M[q] out) p = true := by rw [← hasB_nat _ hp]; simpa using h
                  rw [if_neg hb] at g2
                  exact KW.goToR lay_ok T26_ok 100 rfl ((out', x'), p + 1) [(0, 0)] rfl rfl ⟨rfl, rfl, rfl, rfl, rfl, rfl, trivial⟩ (by simp [inK] <;> omega) ⟨⟨by simp only; omega, g2⟩, by simp only; omega⟩ ⟨rfl, trivial⟩
              · have hp : p = 24 := by simp at h; omega
                subst hp
                simp only [Nat.sub_self, List.range'_zero, fromL] at g2
                rw [← g2]
                refine KW.goOut lay_ok T26_ok 100 rfl (by simp) ?_
                refine KW.go lay_ok T26_ok 100 rfl (by exact ⟨trivial, trivial⟩) ?_
                exact KW.finN [(0, 0)] rfl rfl rfl ⟨rfl, trivial⟩
        · simp only [hg] at h
          have h3 : ¬ iand .i64 M[q] a = 0 := by simpa using h
          rw [if_neg h3] at h2
          exact KW.goToR lay_ok T26_ok 100 rfl (q + 1) [(0, 0)] rfl rfl ⟨rfl, rfl, rfl, rfl, rfl, rfl, rfl, rfl, trivial⟩ (by simp [inK]; omega) ⟨⟨by omega, h2⟩, by omega⟩ ⟨rfl, trivial⟩
      · have hq : q = M.length := by simp at h; omega
        have hneg : firstS M a < 0 := by rw [← h2, hq, List.drop_length]; show (-1 : Int) < 0; decide
        rw [if_pos hneg]
        refine KW.goOut lay_ok T26_ok 100 rfl (by simp) ?_
        refine KW.goIf lay_ok T26_ok 100 rfl (by simp) rfl trivial (fun h => ?_) fun h => by simp at h
        refine KW.go lay_ok T26_ok 100 rfl (by simp) ?_
        refine KW.call0 (better_does M C x b a total) (enters Try.func84 rfl rfl) [(0, 0)] [(0, 0)] [] (.inl rfl) rfl rfl rfl rfl rfl trivial
          ⟨⟨_, _, rfl, trivial, (show Mt _ _ _ (EV.ren [(0, 0)] (.r 0)) (.r 0) from .same)⟩, ⟨_, _, rfl, trivial, .conv (CVEq.refl _)⟩, ⟨_, _, rfl, trivial, .conv (CVEq.refl _)⟩, trivial⟩ rfl ⟨rfl, trivial⟩ rfl ⟨.inr ⟨rfl, .inr ⟨_, _, _, _, b, rfl, rfl⟩⟩, trivial⟩ rfl rfl (.inl rfl) ?_
        refine KW.goIf lay_ok T26_ok 100 rfl (by simp) rfl trivial (fun h => ?_) fun h => ?_
        · have h5 : betB x a total = true := h
          rw [if_pos h5]
          exact KW.goRetR lay_ok T26_ok 100 rfl [(0, 0)] rfl rfl rfl (by simp) (by exact ⟨rfl, trivial⟩)
        · have h5 : ¬ betB x a total = true := by simpa using h
          rw [if_neg h5]
          exact KW.goRetR lay_ok T26_ok 100 rfl [(0, 0)] rfl rfl rfl (by simp) (by exact ⟨rfl, trivial⟩)

def bE (c : Nat → Int) (l : List Int) : Int := if listE l = 0 then if 0 ≤ srchS c (minS l) then 0 else 17 else listE l
def bR (c : Nat → Int) (l : List Int) : Int := if bE c l = 0 then srchS c (minS l) else 0
def bT (c : Nat → Int) (l : List Int) : Int := if bE c l = 0 then sumS c (srchS c (minS l)) else 0

theorem best_does (l C : List Int) (hC : CostOk C) (hCl : 24 ≤ C.length) : DoesF Try.prog 45 [lV l, lV C] [] (.tup [iV (bR (cst C) l), iV (bT (cst C) l), eV (bE (cst C) l)]) [] := by
  refine DoesF.body _ Try.func45 rfl rfl rfl rfl ?_
  refine KW.goIf lay_ok T26_ok 100 rfl (by simp) rfl trivial (fun h => ?_) fun h => ?_
  · have h' : ¬ listE l = 0 := by simpa using h
    refine KW.goRet lay_ok T26_ok 100 rfl rfl ?_ (by simp) trivial
    simp [SV.ren, renL, EV.ren, bR, bT, bE, h']
  · have h' : listE l = 0 := by simpa using h
    have hM : Val (minS l) := Val.minS (l := l) (listE_valid h')
    have hMl := minS_length l
    have hll := listE_len h'
    have hb := bestS_eq (c := cst C) (c' := cst C) (fun i hi => (hC i hi).1) (fun i hi => (hC i hi).1) hM (fun s => Iff.rfl)
    have hsp := srchS_spec (c := cst C) (fun i hi => (hC i hi).1) hM
    simp only [unI_ints, h', if_true] at h ⊢
    have hbE : bE (cst C) l = if 0 ≤ srchS (cst C) (minS l) then 0 else 17 := by simp [bE, h']
    unfold bR bT
    rw [hbE]
    generalize minS l = M at *
    refine KW.goIf lay_ok T26_ok 100 rfl (by simp) rfl trivial (fun h => ?_) fun h => ?_
    · refine KW.goRet lay_ok T26_ok 100 rfl rfl ?_ (by simp) trivial
      have h0 : M.head? = some 0 := by
        cases M with
        | nil => simp at h
        | cons x r => simpa using h
      have hn : ¬ 0 ≤ srchS (cst C) M := fun h1 => by
        have := (hsp.1 h1).hit 0 (List.mem_of_mem_head? h0)
        simp [iand_zero] at this
      simp [SV.ren, renL, EV.ren, hn, errV]
    · refine KW.go lay_ok T26_ok 100 rfl (by simp) ?_
      refine KW.name 9 rfl fun b => ?_
      refine KW.call0 (from_does hM (by omega) hC hCl 25 0 0 0 ⟨0, 0, false⟩ b valid0 (by rw [sum0]; decide) (sum0 _).symm) (enters Try.func70 rfl rfl) [(0, 9)] [(0, 9)] [] (.inl rfl) rfl rfl rfl rfl rfl trivial
        ⟨⟨_, _, rfl, trivial, (show Mt _ _ _ (EV.ren [(0, 9)] (.r 0)) (.r 0) from .same)⟩, ⟨_, _, rfl, trivial, .conv (CVEq.refl _)⟩, ⟨_, _, rfl, trivial, .conv (CVEq.refl _)⟩, ⟨_, _, rfl, trivial, .conv (CVEq.refl _)⟩, trivial⟩ rfl ⟨rfl, trivial⟩ rfl ⟨.inr ⟨rfl, .inr ⟨_, _, _, _, b, rfl, rfl⟩⟩, trivial⟩ rfl rfl (.inl rfl) ?_
      obtain ⟨hb1, hb2⟩ := hb
      change (bestS (cst C) M).found = _ at hb1
      have hbs : fromF (cst C) M 25 0 0 0 ⟨0, 0, false⟩ = bestS (cst C) M := rfl
      rw [hbs]
      generalize bestS (cst C) M = B at *
      refine KW.goIf lay_ok T26_ok 100 rfl (by simp) rfl trivial (fun h => ?_) fun h => ?_
      · refine KW.goRet lay_ok T26_ok 100 rfl rfl ?_ (by simp) trivial
        have h5 : B.found = false := by simpa using h
        rw [h5] at hb1
        have hn : ¬ 0 ≤ srchS (cst C) M := by simpa using hb1.symm
        simp [SV.ren, renL, EV.ren, hn, errV]
      · have h5 : B.found = true := by simpa using h
        rw [h5] at hb1
        have hn : 0 ≤ srchS (cst C) M := by simpa using hb1.symm
        obtain ⟨e1, e2⟩ := hb2 hn
        refine KW.goD lay_ok T26_ok rfl 100 rfl rfl rfl (by simp) (by simp) ?_
        refine KW.goRet lay_ok T26_ok 100 rfl rfl ?_ (by simp) trivial
        simp [SV.ren, renL, EV.ren, hn, errV, e1, e2]
end Go.Proofs.Ytinddojpbieejaa
