/-
  The law HittingPacks returns true.
-/
import Derived.Test.YtinddojpbieejaaFnX
set_option linter.unusedVariables false
set_option linter.unusedSimpArgs false
namespace Go.Pu
open Go.Sy
/-- each one disjoint from those ahead of it -/
def Dis (p : List Int) : Prop := ∀ (q : Nat) (h : q < p.length), iand .i64 p[q] (orL 0 (p.take q)) = 0
theorem orL_append : ∀ (a : List Int) (u x : Int), orL u (a ++ [x]) = ior .i64 (orL u a) x
  | [], u, x => rfl
  | y :: a, u, x => by rw [List.cons_append, orL, orL, orL_append a]
theorem orL_take {p : List Int} {q : Nat} (h : q < p.length) (u : Int) : orL u (p.take (q + 1)) = ior .i64 (orL u (p.take q)) p[q] := by
  rw [List.take_succ_eq_append_getElem h, orL_append]
theorem Dis.snoc {p : List Int} {s : Int} (h : Dis p) (h0 : iand .i64 s (orL 0 p) = 0) : Dis (p ++ [s]) := by
  intro q hq
  by_cases c : q < p.length
  · rw [List.getElem_append_left c, List.take_append_of_le_length (by omega)]
    exact h q c
  · have e : q = p.length := by simp at hq; omega
    subst e
    simp [h0]
theorem pack_spec : ∀ (m out : List Int), Val m → Dis out → Dis (packF out (orL 0 out) m) ∧ (∀ x ∈ packF out (orL 0 out) m, x ∈ out ∨ x ∈ m) ∧
    (∀ x ∈ m, x = 0 ∨ iand .i64 x (orL 0 (packF out (orL 0 out) m)) ≠ 0) ∧ (∀ x, iand .i64 x (orL 0 out) ≠ 0 → iand .i64 x (orL 0 (packF out (orL 0 out) m)) ≠ 0) ∧ out.length ≤ (packF out (orL 0 out) m).length
  | [], out, _, h => ⟨h, fun x hx => .inl hx, fun x hx => by simp at hx, fun x hx => hx, Nat.le_refl _⟩
  | s :: m, out, hm, h => by
    have hm' : Val m := fun x hx => hm x (.tail _ hx)
    have up : ∀ x u v : Int, iand .i64 x u ≠ 0 → iand .i64 x (ior .i64 u v) ≠ 0 := fun x u v h h0 => h (by
      rw [iand_zero] at h0 ⊢
      intro i hi hb
      have := h0 i hi hb
      rw [bit_ior, Bool.or_eq_false_iff] at this
      exact this.1)
    rw [packF]
    split
    · rename_i h0
      have e : ior .i64 (orL 0 out) s = orL 0 (out ++ [s]) := (orL_append out 0 s).symm
      rw [e]
      obtain ⟨a1, a2, a3, a4, a5⟩ := pack_spec m (out ++ [s]) hm' (h.snoc h0)
      refine ⟨a1, fun x hx => ?_, fun x hx => ?_, fun x hx => a4 x ?_, by simp at a5; omega⟩
      · rcases a2 x hx with h | h
        · rcases List.mem_append.1 h with h | h
          · exact .inl h
          · simp at h; subst h; exact .inr (.head _)
        · exact .inr (.tail _ h)
      · rcases List.mem_cons.1 hx with rfl | hx
        · by_cases hz : x = 0
          · exact .inl hz
          · right
            refine a4 x ?_
            rw [← e]
            intro hc
            rw [iand_zero] at hc
            by_cases hex : ∃ i, i < 64 ∧ bit x i = true
            · obtain ⟨i, hi, hb⟩ := hex
              have := hc i hi hb
              rw [bit_ior, hb] at this
              simp at this
            · exact hz ((eq_zero_iff (validS_rng (hm x (.head _)))).2 fun i hi => by
                cases hb : bit x i with
                | false => rfl
                | true => exact absurd ⟨i, hi, hb⟩ hex)
        · exact a3 x hx
      · rw [← e]; exact up x _ _ hx
    · rename_i h0
      obtain ⟨a1, a2, a3, a4, a5⟩ := pack_spec m out hm' h
      refine ⟨a1, fun x hx => (a2 x hx).imp id (.tail _), fun x hx => ?_, a4, a5⟩
      rcases List.mem_cons.1 hx with rfl | hx
      · exact .inr (a4 x h0)
      · exact a3 x hx
theorem dis_count {p : List Int} {s : Int} (hp : Val p) (hs : validS s = true) (hd : Dis p) (hh : ∀ x ∈ p, iand .i64 x s ≠ 0) : ∀ q, q ≤ p.length → (q : Int) ≤ sumS (fun _ => 1) (iand .i64 s (orL 0 (p.take q)))
  | 0, _ => by
    have := sumN_bound (c := fun _ => 1) (B := 1) (by decide) (fun _ _ => by decide) (iand .i64 s (orL 0 (p.take 0))) 24 (Nat.le_refl _)
    unfold sumS; omega
  | q + 1, hq => by
    have ih := dis_count hp hs hd hh q (by omega)
    have hq' : q < p.length := by omega
    rw [orL_take hq']
    have hx := hh _ (List.getElem_mem hq')
    rw [Ne, iand_zero] at hx
    simp only [Classical.not_forall] at hx
    obtain ⟨i, hi, hb, hc⟩ := hx
    have hbs : bit s i = true := by simpa using hc
    have h24 : i < 24 := by
      rcases Nat.lt_or_ge i 24 with h24 | h24
      · exact h24
      · rw [validS_bit hs h24] at hbs; cases hbs
    have hu := iand_zero.1 (hd q hq') i hi hb
    have hf : bit (iand .i64 s (orL 0 (p.take q))) i = false := by rw [bit_iand, hu, Bool.and_false]
    have h1 := sumS_ior (c := fun _ => 1) hf h24
    have h2 := sumS_mono (c := fun _ => 1) (fun _ _ => by decide) (a := ior .i64 (iand .i64 s (orL 0 (p.take q))) (one i)) (b := iand .i64 s (ior .i64 (orL 0 (p.take q)) p[q])) (fun j hj => by
      rw [bit_ior, Bool.or_eq_true] at hj
      rcases hj with hj | hj
      · rw [bit_iand, Bool.and_eq_true] at hj
        simp [hj.1, hj.2]
      · rw [one_bit h24] at hj
        simp at hj
        subst hj
        simp [hbs, hb])
    push_cast
    omega
theorem orL_zeros : ∀ (p : List Int), (∀ x ∈ p, x = 0) → orL 0 p = 0
  | [], _ => rfl
  | x :: p, h => by
    have e := h x (.head _)
    subst e
    rw [orL, show ior .i64 0 0 = 0 by decide +kernel]
    exact orL_zeros p fun y hy => h y (.tail _ hy)
theorem pack_law {l : List Int} (hl : listE l = 0) : Dis (packF [] 0 (minS l)) ∧ (∀ x ∈ packF [] 0 (minS l), x ∈ l) ∧ (∀ y ∈ l, iand .i64 y (orL 0 (packF [] 0 (minS l))) = 0 → orL 0 (packF [] 0 (minS l)) = 0) ∧
    (l ≠ [] → 0 < (packF [] 0 (minS l)).length) ∧ Val (packF [] 0 (minS l)) ∧ ∀ s, validS s = true → Hit (minS l) s → ((packF [] 0 (minS l)).length : Int) ≤ cntS s := by
  have hv : Val l := listE_valid hl
  obtain ⟨a1, a2, a3, _, _⟩ := pack_spec (minS l) [] hv.minS (fun q h => by simp at h)
  change Dis (packF [] 0 (minS l)) at a1
  change ∀ x ∈ packF [] 0 (minS l), x ∈ [] ∨ x ∈ minS l at a2
  change ∀ x ∈ minS l, x = 0 ∨ iand .i64 x (orL 0 (packF [] 0 (minS l))) ≠ 0 at a3
  have a2' : ∀ x ∈ packF [] 0 (minS l), x ∈ minS l := fun x hx => (a2 x hx).resolve_left (by simp)
  have hvp : Val (packF [] 0 (minS l)) := fun x hx => hv.minS x (a2' x hx)
  refine ⟨a1, fun x hx => ((mem_minS hv x).1 (a2' x hx)).1, fun y hy h0 => ?_, fun hne => ?_, hvp, fun s hs hh => ?_⟩
  · obtain ⟨t, ht, hp⟩ := below hv hy
    rcases a3 t ht with rfl | h1
    · refine orL_zeros _ fun x hx => ?_
      have h2 := ((mem_minS hv x).1 (a2' x hx)).2 0 ((mem_minS hv 0).1 ht).1 (bit0 x)
      exact h2.symm
    · refine absurd ?_ h1
      rw [iand_zero] at h0 ⊢
      exact fun i hi hb => h0 i hi (hp i hb)
  · cases l with
    | nil => exact absurd rfl hne
    | cons y r =>
      obtain ⟨t, ht, _⟩ := below hv (t := y) (.head _)
      cases hm : minS (y :: r) with
      | nil => rw [hm] at ht; cases ht
      | cons s m =>
        have hms : Val m := fun x hx => hv.minS x (by rw [hm]; exact .tail _ hx)
        rw [packF, if_pos (iand_zero.2 fun i _ _ => bit_zero i)]
        have := (pack_spec m [s] hms (fun q h => by
          have : q = 0 := by simp at h; omega
          subst this
          exact iand_zero.2 fun i _ _ => bit_zero i)).2.2.2.2
        exact Nat.lt_of_lt_of_le (by simp) this
  · have h1 := dis_count hvp hs a1 (fun x hx => hh x (a2' x hx)) _ (Nat.le_refl _)
    rw [List.take_length] at h1
    have h2 := sumS_mono (c := fun _ => 1) (fun _ _ => by decide) (a := iand .i64 s (orL 0 (packF [] 0 (minS l)))) (b := s) (fun i hi => by
      rw [bit_iand, Bool.and_eq_true] at hi; exact hi.1)
    rw [cntS, cutS_of hs, popc_sum hs]
    omega
end Go.Pu
namespace Go.Proofs.Ytinddojpbieejaa
open Go.Sy Go.Pu
theorem lawHitPacks_does (l : List Int) : DoesF Try.prog 5 [lV l] [] (sB true) [] := by
  refine DoesF.body _ Try.func5 rfl rfl rfl rfl ?_
  refine KW.goIf lay_ok T33_ok 200 rfl (by simp) rfl trivial (fun h => ?_) fun h => ?_
  · exact KW.goRet lay_ok T33_ok 200 rfl rfl rfl (by simp) trivial
  · have hok : ok7 l = true := by simpa using h
    have hl : listE l = 0 := by simp [ok7] at hok; exact hok.2
    have hl10 : l.length ≤ 10 := by simp [ok7] at hok; omega
    have hv : Val l := listE_valid hl
    obtain ⟨p1, p2, p3, p4, p5, p6⟩ := pack_law hl
    obtain ⟨b1, b2⟩ := srchS_spec c1_nn hv.minS
    have hpl : (packS l).length ≤ 10 := by
      have h1 := packF_length (minS l) [] 0
      have h2 := minS_length l
      simp only [List.length_nil, Nat.zero_add] at h1
      unfold packS; omega
    have hcnt : bE c1 l = 17 ∨ (bE c1 l = 0 ∧ ((packS l).length : Int) ≤ cntS (bR c1 l)) := by
      by_cases h0 : 0 ≤ srchS c1 (minS l)
      · have e : bE c1 l = 0 := by simp [bE, hl, h0]
        have e2 : bR c1 l = srchS c1 (minS l) := by simp [bR, e]
        refine .inr ⟨e, ?_⟩
        rw [e2]; exact p6 _ (b1 h0).val (b1 h0).hit
      · left; simp [bE, hl, h0]
    refine KW.goIf lay_ok T33_ok 200 rfl ?_ rfl trivial (fun h => ?_) fun h => ?_
    · rcases hcnt with e | ⟨e, _⟩ <;> simp [hl, e]
    · rcases hcnt with e | ⟨e, hc⟩
      · simp [hl, e] at h
      · simp [hl, e] at h; omega
    · simp only [unI_ints, hl, if_true]
      have hPd : packS l = packF [] 0 (minS l) := rfl
      rw [← hPd] at p1 p2 p3 p4 p5
      generalize packS l = P at *
      refine KW.goLp lay_ok T33_ok 100 rfl (I := fun q : Nat => ⟨Try.f5.ntmps, [(0, .e (lV l)), (3, .e (lV P)), (7, sI (orL 0 (P.take q))), (55, .e (lV P)), (56, sI P.length), (57, sI q)], []⟩) (R := fun q => q ≤ P.length) (m := fun q => P.length - q) 0 rfl ⟨rfl, rfl, rfl, rfl, rfl, rfl, trivial⟩ (by simp) (by simp) trivial ?_
      rintro q h1
      refine KW.goIf lay_ok T33_ok 100 rfl (by simp) rfl trivial (fun h => ?_) fun h => ?_
      · have hq : q < P.length := by simpa using h
        have hg : P.getD (Int.toNat (q : Int)) 0 = P[q] := by simp [List.getD_eq_getElem?_getD, hq]
        have hmem := p2 _ (List.getElem_mem hq)
        have hdis := p1 q hq
        have htk := orL_take hq 0
        generalize P[q] = x at *
        refine KW.goLp lay_ok T33_ok 100 rfl (I := fun j : Nat => ⟨Try.f5.ntmps, [(0, .e (lV l)), (3, .e (lV P)), (7, sI (orL 0 (P.take q))), (9, sI x), (10, sB ((l.take j).any fun y => x == y)), (55, .e (lV P)), (56, sI P.length), (57, sI q), (61, .e (lV l)), (62, sI l.length), (63, sI j)], []⟩) (R := fun j => j ≤ l.length) (m := fun j => l.length - j) 0 rfl ⟨rfl, rfl, rfl, (by rw [← hg]; rfl), rfl, rfl, rfl, rfl, rfl, rfl, rfl, trivial⟩ (by simp; omega) (by simp) trivial ?_
        rintro j h2
        refine KW.goIf lay_ok T33_ok 100 rfl (by simp) rfl trivial (fun h => ?_) fun h => ?_
        · have hj : j < l.length := by simpa using h
          have hgj : l.getD (Int.toNat (j : Int)) 0 = l[j] := by simp [List.getD_eq_getElem?_getD, hj]
          refine KW.goTo lay_ok T33_ok 100 rfl (j + 1) rfl ⟨rfl, rfl, rfl, rfl, ?_, rfl, rfl, rfl, rfl, rfl, rfl, trivial⟩ (by simp [inK]; omega) ⟨by omega, by omega⟩ trivial
          rw [List.take_succ_eq_append_getElem hj, List.any_append, ← hgj]
          simp
          rfl
        · have hj : j = l.length := by simp at h; omega
          subst hj
          have hf : (l.any fun y => x == y) = true := List.any_eq_true.2 ⟨x, hmem, by simp⟩
          rw [List.take_length, hf]
          refine KW.goOut lay_ok T33_ok 100 rfl (by simp) ?_
          refine KW.goIf lay_ok T33_ok 100 rfl (by simp) rfl trivial (fun h => ?_) fun h => ?_
          · simp [hdis] at h
          · refine KW.goTo lay_ok T33_ok 100 rfl (q + 1) rfl ⟨rfl, rfl, ?_, rfl, rfl, rfl, trivial⟩ (by simp [inK]; omega) ⟨by omega, by omega⟩ trivial
            rw [htk]; rfl
      · have hq : q = P.length := by simp at h; omega
        subst hq
        rw [List.take_length]
        refine KW.goOut lay_ok T33_ok 100 rfl (by simp) ?_
        refine KW.goLp lay_ok T33_ok 100 rfl (I := fun j : Nat => ⟨Try.f5.ntmps, [(0, .e (lV l)), (3, .e (lV P)), (7, sI (orL 0 P)), (86, .e (lV l)), (87, sI l.length), (88, sI j)], []⟩) (R := fun j => j ≤ l.length) (m := fun j => l.length - j) 0 rfl ⟨rfl, rfl, rfl, rfl, rfl, rfl, trivial⟩ (by simp) (by simp) trivial ?_
        rintro j h2
        refine KW.goIf lay_ok T33_ok 100 rfl (by simp) rfl trivial (fun h => ?_) fun h => ?_
        · have hj : j < l.length := by simpa using h
          have hgj : l.getD (Int.toNat (j : Int)) 0 = l[j] := by simp [List.getD_eq_getElem?_getD, hj]
          have h3 := p3 _ (List.getElem_mem hj)
          refine KW.goIf lay_ok T33_ok 100 rfl (by simp; omega) rfl trivial (fun h => ?_) fun h => ?_
          · simp only [hgj] at h
            simp at h
            exact absurd (h3 h.1) h.2
          · exact KW.goTo lay_ok T33_ok 100 rfl (j + 1) rfl ⟨rfl, rfl, rfl, rfl, rfl, rfl, trivial⟩ (by simp [inK]; omega) ⟨by omega, by omega⟩ trivial
        · refine KW.goOut lay_ok T33_ok 100 rfl (by simp) ?_
          refine KW.goRet lay_ok T33_ok 100 rfl rfl ?_ (by simp) trivial
          by_cases hn : l = []
          · subst hn; simp [SV.ren, EV.ren]
          · have := p4 hn
            simp [SV.ren, EV.ren]
            omega
end Go.Proofs.Ytinddojpbieejaa
