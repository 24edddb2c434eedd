/-
  Full, Swap: contracts.
-/
import Derived.Test.YtpkjbchplkfmhaaDoorTrH
import Derived.Test.YtpkjbchplkfmhaaDoorSyZ
import Derived.Test.YtpkjbchplkfmhaaDoorTrW
set_option linter.unusedSectionVars false
set_option linter.unusedVariables false
set_option linter.unusedSimpArgs false
namespace Go.Pu
open Go.Sy
variable [Drw]
/-- few kids everywhere -/
def Tr.nar : Tr → Prop
  | .nd _ _ n f => n ≤ 10 ∧ ∀ i, (f i).nar
theorem Tr.nar_iff (t : Tr) : t.nar ↔ t.n ≤ 10 ∧ ∀ i, i < t.n → (t.k i).nar := by
  cases t with
  | nd v r n f =>
    have e : ∀ i (h : i < n), (Tr.nd v r n f).k i = f ⟨i, h⟩ := fun i h => by simp [Tr.k, h]
    constructor
    · rintro ⟨h1, h2⟩
      exact ⟨h1, fun i hi => by rw [e i hi]; exact h2 _⟩
    · rintro ⟨h1, h2⟩
      exact ⟨h1, fun ⟨i, hi⟩ => by have := h2 i hi; rwa [e i hi] at this⟩
theorem left_nar (t : Tr) : ∀ {m d : Int}, 0 ≤ leftT t m d → t.nar := by
  induction t using Tr.ind with
  | h t ih =>
    intro m d h
    rw [leftT_eq] at h
    split at h
    · omega
    · rename_i hn
      refine (Tr.nar_iff t).2 ⟨by omega, fun i hi => ih i hi (m := fwL (fun i m => leftT (t.k i) m (d + 1)) (m - 1) i) (d := d + 1) ?_⟩
      have h1 : ¬ fwL (fun i m => leftT (t.k i) m (d + 1)) (m - 1) (i + 1) < 0 := fun hneg => by
        by_cases e : i + 1 = t.n
        · rw [e] at hneg; omega
        · rw [fwL_neg hneg (n := t.n) (by omega)] at h; omega
      rw [fwL] at h1
      split at h1
      · omega
      · omega
def ksL (t : Tr) (q : Nat) : List Tr := (List.range q).map t.k
theorem ksL_succ (t : Tr) (q : Nat) : ksL t (q + 1) = ksL t q ++ [t.k q] := by simp [ksL, List.range_succ]
abbrev treesC (xs : List Tr) : CV := rows 3 (fun x p => x.cell p) .no xs
theorem ksL_ks (t : Tr) : CVEq (treesC (ksL t t.n)) t.ks := by
  refine ⟨by simp [ksL], .inr ⟨rfl, fun e q he hq => ?_⟩⟩
  have he' : e < t.n := by simpa [ksL] using he
  rw [Tr.kf_eq he']
  have : (ksL t t.n).getD e .no = t.k e := by simp [ksL, List.getD_eq_getElem?_getD, he']
  show CVEq (((ksL t t.n).getD e .no).cell q) ((t.k e).cell q)
  rw [this]; exact CVEq.refl _
theorem gT_nar {t : Tr} : gT t → t.nar := by
  induction t using Tr.ind with
  | h t ih =>
    rw [gT_eq, Tr.nar_iff]
    split
    · rename_i h
      rintro ⟨_, _, _, h4, h5⟩
      refine ⟨by omega, fun i hi => ?_⟩
      have : i = 0 ∨ i = 1 := by omega
      rcases this with rfl | rfl
      · exact ih 0 (by omega) h4
      · exact ih 1 (by omega) h5
    · rintro ⟨h1, _⟩
      exact ⟨by omega, fun i hi => by omega⟩
end Go.Pu
namespace Go.Sy
variable [Drw]
def fIL (g : Int → List Int → SV) (p : Int → List Int → Prop) : List EV → Option (SV × Prop)
  | [.c (.lit (.int .i64 s)), .c x] => some (g s (unI x), isI x ∧ p s (unI x))
  | _ => none
theorem fIL_ok {P : Program} {f : FuncId} {g : Int → List Int → SV} {p : Int → List Int → Prop} (h : ∀ a b, p a b → DoesF P f [iV a, .c (ints b)] [] (g a b) []) : ∀ ys y φ, fIL g p ys = some (y, φ) → φ → DoesF P f ys [] y [] := by
  intro ys y φ he hφ
  unfold fIL at he
  split at he
  · simp only [Option.some.injEq, Prod.mk.injEq] at he
    obtain ⟨rfl, rfl⟩ := he
    refine DoesF.conv ?_ (h _ _ hφ.2)
    exact ⟨CVEq.refl _, hφ.1, trivial⟩
  · cases he
end Go.Sy
namespace Go.Pu
open Go.Sy
variable [Drw]
/-! what Full looks at -/
theorem seenE_ok {vars : Int} (hv : vars ≤ 24) : ∀ (l : List Int) (s : Int), seenE vars l s = 0 → (l.map Int.toNat).Nodup ∧ ∀ i ∈ l, 0 ≤ i ∧ i < 24 ∧ bit s i.toNat = false
  | [], s, _ => ⟨List.nodup_nil, by simp⟩
  | i :: r, s, h => by
    rw [seenE] at h
    split at h
    · cases h
    split at h
    · cases h
    rename_i h1 h2
    obtain ⟨g1, g2⟩ := seenE_ok hv r _ h
    have hb : bit s i.toNat = false := by
      rw [bitB_bit s (by omega) (by omega)] at h2
      simpa using h2
    refine ⟨List.nodup_cons.2 ⟨fun hm => ?_, g1⟩, fun j hj => ?_⟩
    · obtain ⟨j, hj, e⟩ := List.mem_map.1 hm
      have := (g2 j hj).2.2
      rw [bit_ior, bit_shl (by omega) (by omega), e] at this
      simp at this
    · rcases List.mem_cons.1 hj with rfl | hj
      · exact ⟨by omega, by omega, hb⟩
      · obtain ⟨k1, k2, k3⟩ := g2 j hj
        rw [bit_ior, Bool.or_eq_false_iff] at k3
        exact ⟨k1, k2, k3.1⟩
theorem seenE_len {vars : Int} (hv : vars ≤ 24) {l : List Int} {s : Int} (h : seenE vars l s = 0) : l.length ≤ 24 := by
  obtain ⟨h1, h2⟩ := seenE_ok hv l s h
  have := nodup_lt 24 _ h1 fun i hi => by
    obtain ⟨j, hj, rfl⟩ := List.mem_map.1 hi
    have := h2 j hj
    omega
  simpa using this
theorem big_len {n : Nat} (h : n ≤ 24) : (4096 < ishl 2 n - 1 ↔ 11 < n) ∧ 2 ≤ ishl 2 n ∧ ishl 2 n ≤ 67108864 := by
  exact (by decide +kernel : ∀ n : Fin 25, (4096 < ishl 2 ((n.val : Nat) : Int) - 1 ↔ 11 < n.val) ∧ 2 ≤ ishl 2 ((n.val : Nat) : Int) ∧ ishl 2 ((n.val : Nat) : Int) ≤ 67108864) ⟨n, by omega⟩
theorem full_room {n : Nat} (h : n ≤ 11) : (0 : Int) + ((2 ^ n : Nat) : Int) ≤ 4096 := by
  have : 2 ^ n ≤ 2 ^ 11 := Nat.pow_le_pow_right (by decide) h
  generalize 2 ^ n = P at *
  omega
end Go.Pu
namespace Go.Proofs.YtpkjbchplkfmhaaDoor
open Go.Sy Go.Pu
variable [Drw]
theorem cons_tail (v : Int) (r : List Int) : isI (.sl ((((v :: r).length : Nat) : Int).toNat - Int.toNat 1) 1 fun e _ => .lit (.int .i64 ((v :: r).getD (e + Int.toNat 1) 0))) ∧ unI (.sl ((((v :: r).length : Nat) : Int).toNat - Int.toNat 1) 1 fun e _ => .lit (.int .i64 ((v :: r).getD (e + Int.toNat 1) 0))) = r := by
  have h := isI_drop (v :: r) r.length 1 (by simp; omega)
  have e : (((v :: r).length : Nat) : Int).toNat - Int.toNat 1 = r.length := by simp
  rw [e]
  refine ⟨h.1, h.2.trans ?_⟩
  simp
theorem full_does (ev : List Int) : ∀ first : Int, 0 ≤ first → first + ((2 ^ ev.length : Nat) : Int) ≤ 4096 → DoesF Tryd.prog 42 [lV ev, iV first] [] (.e (trV (fullT ev first))) [] := by
  induction ev with
  | nil =>
    intro first h0 h1
    refine DoesF.bodyC lay_ok _ Tryd.func42 rfl rfl rfl rfl ?_
    refine KW.goIf lay_ok U6_ok 100 rfl (by simp) rfl trivial (fun h => ?_) fun h => ?_
    · refine KW.go lay_ok U6_ok 100 rfl (by simp) ?_
      refine KW.convB 4 1 (Tr.lf first).ks rfl rfl ⟨rfl, rfl⟩ ?_
      exact KW.finC [] rfl rfl rfl trivial
    · simp at h
  | cons v r ih =>
    intro first h0 h1
    have hp := Nat.two_pow_pos r.length
    have e2 : (2 ^ (v :: r).length : Nat) = 2 ^ r.length + 2 ^ r.length := by rw [List.length_cons, Nat.pow_succ]; omega
    rw [e2] at h1
    have T_ok : FnsOk Tryd.prog ((42, fLI (fun l a => .e (trV (fullT l a))) fun l a => l = r ∧ 0 ≤ a ∧ a + ((2 ^ r.length : Nat) : Int) ≤ 4096) :: U6) :=
      .cons U6_ok Tryd.func42 rfl rfl (fLI_ok fun l a h => by obtain ⟨rfl, h2, h3⟩ := h; exact ih a h2 h3)
    obtain ⟨d1, d2⟩ := cons_tail v r
    have hr : r.length ≤ 11 := Nat.le_of_not_lt fun hlt => by
      have : 2 ^ 12 ≤ 2 ^ r.length := Nat.pow_le_pow_right (by decide) hlt
      generalize 2 ^ r.length = P at *
      omega
    have hs : ishl 1 (((v :: r).length : Int) - 1) = ((2 ^ r.length : Nat) : Int) := by
      rw [show ((v :: r).length : Int) - 1 = (r.length : Int) by simp]
      simp [ishl]
    refine DoesF.bodyC lay_ok _ Tryd.func42 rfl rfl rfl rfl ?_
    refine KW.goIf lay_ok T_ok 100 rfl (by simp) rfl trivial (fun h => ?_) fun h => ?_
    · simp at h; omega
    refine KW.goDV lay_ok T_ok rfl 100 rfl 15 20 0 rfl (by decide +kernel) (by decide +kernel) rfl rfl rfl ?_ ?_ ?_
    · simp only [true_and, and_true, hs, inK, bitsI]
      simp only [List.length_cons]
      generalize 2 ^ r.length = P at *
      omega
    · simp only [d1, d2, hs, true_and, and_true, inK, bitsI]
      simp only [List.length_cons]
      generalize 2 ^ r.length = P at *
      omega
    refine KW.go lay_ok T_ok 100 rfl (by simp) ?_
    refine KW.convB 4 1 (Tr.two v (fullT r first) (fullT r (first + ((2 ^ r.length : Nat) : Int)))).ks rfl rfl ?_ ?_
    · simp only [d2, hs]
      exact two_rows v _ _
    exact KW.finC [] rfl rfl rfl trivial
theorem fullX_does (vars : Int) (ev : List Int) : DoesF Tryd.prog 22 [iV vars, lV ev] [] (.tup [trV (fullV vars ev), eV (fullE vars ev)]) [] := by
  refine DoesF.bodyC lay_ok _ Tryd.func22 rfl rfl rfl rfl ?_
  refine KW.len 1 rfl rfl fun hla => ?_
  refine KW.goIf lay_ok U6_ok 100 rfl (by simp) rfl trivial (fun h => ?_) fun h => ?_
  · have h1 : vars < 0 ∨ 24 < vars := by simp at h; omega
    have e : fullE vars ev = 3 := by rw [fullE, if_pos h1]
    refine KW.go lay_ok U6_ok 100 rfl (by simp) ?_
    refine KW.convB 4 1 Tr.no.ks rfl rfl ⟨rfl, rfl⟩ ?_
    refine KW.finC [] rfl rfl ?_ trivial
    simp only [fullV, e]; rfl
  have h1 : ¬ (vars < 0 ∨ 24 < vars) := by simp at h; omega
  have hE : fullE vars ev = if seenE vars ev 0 = 0 then if 11 < ev.length then 4 else 0 else seenE vars ev 0 := by rw [fullE, if_neg h1]
  refine KW.goLpR lay_ok U6_ok 100 rfl (I := fun q : Nat × Int => ⟨Tryd.f22.ntmps, [(0, sI vars), (1, .e (lV ev)), (4, .e (.r 4)), (6, sI q.2), (17, .e (lV ev)), (18, sI ev.length), (19, sI q.1)], [(4, .box 25 [iV 0, .c (.lit (.slice none 0 0)), iV 0] none)]⟩)
    (R := fun q => q.1 ≤ ev.length ∧ seenE vars (ev.drop q.1) q.2 = seenE vars ev 0) (m := fun q => ev.length - q.1) (0, 0) [(4, 4)] rfl rfl ⟨rfl, rfl, rfl, rfl, rfl, rfl, rfl, trivial⟩ (by simp) ⟨Nat.zero_le _, rfl⟩ (by exact ⟨rfl, trivial⟩) ?_
  rintro ⟨q, s⟩ ⟨k1, k2⟩
  simp only at k1 k2
  refine KW.goIf lay_ok U6_ok 100 rfl (by simp) rfl trivial (fun h => ?_) fun h => ?_
  · have hq : q < ev.length := by simpa using h
    have hg : ev.getD (Int.toNat (q : Int)) 0 = ev[q] := by simp [List.getD_eq_getElem?_getD, hq]
    rw [List.drop_eq_getElem_cons hq] at k2
    generalize ev[q] = i at hg k2
    rw [seenE] at k2
    refine KW.goIf lay_ok U6_ok 100 rfl (by simp; omega) rfl trivial (fun h => ?_) fun h => ?_
    · have h3 : i < 0 ∨ vars ≤ i := by rw [hg] at h; simp at h; omega
      rw [if_pos h3] at k2
      refine KW.goOutR lay_ok U6_ok 100 rfl (by simp) ?_
      refine KW.go lay_ok U6_ok 100 rfl (by simp) ?_
      refine KW.convB 4 1 Tr.no.ks rfl rfl ⟨rfl, rfl⟩ ?_
      refine KW.finC [] rfl rfl ?_ trivial
      simp only [fullV, hE, ← k2]; rfl
    have h3 : ¬ (i < 0 ∨ vars ≤ i) := by rw [hg] at h; simp at h; omega
    rw [if_neg h3] at k2
    refine KW.goIf lay_ok U6_ok 100 rfl (by simp only [hg]; simp [bitsI]; omega) rfl trivial (fun h => ?_) fun h => ?_
    · have h4 : bitB s i = true := by rw [hg] at h; exact h
      rw [if_pos h4] at k2
      refine KW.goOutR lay_ok U6_ok 100 rfl (by simp) ?_
      refine KW.go lay_ok U6_ok 100 rfl (by simp) ?_
      refine KW.convB 4 1 Tr.no.ks rfl rfl ⟨rfl, rfl⟩ ?_
      refine KW.finC [] rfl rfl ?_ trivial
      simp only [fullV, hE, ← k2]; rfl
    · have h4 : ¬ bitB s i = true := by rw [hg] at h; rw [show bitB s i = false from h]; decide
      rw [if_neg h4] at k2
      have one := shl_rng24 (v := i) (by omega) (by omega)
      refine KW.goToR lay_ok U6_ok 100 rfl (q + 1, ior .i64 s (ishl 1 i)) [(4, 4)] rfl rfl ⟨rfl, rfl, rfl, by simp only [hg]; rfl, rfl, rfl, rfl, trivial⟩ (by simp only [hg]; simp [inK, bitsI]; omega) ⟨⟨by simp only; omega, k2⟩, by simp only; omega⟩ ⟨rfl, trivial⟩
  have hq : q = ev.length := by simp at h; omega
  rw [hq, List.drop_length, seenE] at k2
  rw [← k2, if_pos rfl] at hE
  have hlen := seenE_len (vars := vars) (by omega) k2.symm
  obtain ⟨b1, b2, b3⟩ := big_len hlen
  refine KW.goOut lay_ok U6_ok 100 rfl (by simp) ?_
  refine KW.goIf lay_ok U6_ok 100 rfl (by simp [inK, bitsI]; omega) rfl trivial (fun h => ?_) fun h => ?_
  · have h5 : 11 < ev.length := b1.1 (by simpa using h)
    rw [if_pos h5] at hE
    refine KW.go lay_ok U6_ok 100 rfl (by simp) ?_
    refine KW.convB 4 1 Tr.no.ks rfl rfl ⟨rfl, rfl⟩ ?_
    refine KW.finC [] rfl rfl ?_ trivial
    simp only [fullV, hE]; rfl
  · have h5 : ¬ 11 < ev.length := fun h' => by have := b1.2 h'; simp at h; omega
    rw [if_neg h5] at hE
    have T_ok : FnsOk Tryd.prog ((42, fLI (fun l a => .e (trV (fullT l a))) fun l a => l = ev ∧ a = 0) :: U6) :=
      .cons U6_ok Tryd.func42 rfl rfl (fLI_ok fun l a h => by obtain ⟨rfl, rfl⟩ := h; exact full_does _ 0 (by decide) (full_room (by omega)))
    refine KW.goRetC lay_ok T_ok 100 rfl rfl ?_ (by simp) trivial
    simp only [fullV, hE, unI_ints]; rfl
theorem copied_does (t : Tr) : t.nar → DoesF Tryd.prog 57 [trV t] [] (.e (trV t)) [] := by
  induction t using Tr.ind with
  | h t ih =>
    intro hn
    obtain ⟨h10, hk⟩ := (Tr.nar_iff t).1 hn
    have T_ok : FnsOk Tryd.prog ((57, fT (fun x => .e (trV x)) fun x => ∃ i, i < t.n ∧ x = t.k i) :: U6) :=
      .cons U6_ok Tryd.func57 rfl rfl (fT_ok fun x h => by obtain ⟨i, hi, rfl⟩ := h; exact ih i hi (hk i hi))
    refine DoesF.bodyC lay_ok _ Tryd.func57 rfl rfl rfl rfl ?_
    refine KW.open 0 t rfl ?_
    refine KW.go lay_ok T_ok 100 rfl (by simp) ?_
    refine KW.nilB 3 1 200 25 (treesC []) rfl rfl rfl rfl rfl ?_
    refine KW.goLpR lay_ok T_ok 100 rfl (I := fun q : Nat => ⟨Tryd.f57.ntmps, [(2, .e (.r 2)), (3, .e (.r 3)), (12, .e (.c t.ksx)), (13, sI t.n), (14, sI q)],
        [(2, .box 25 [iV 0, .c (.lit (.slice none 0 0)), iV 0] none), (3, .box 25 [iV t.v, .r 200, iV t.r] none), (200, .own 25 (treesC (ksL t q)))]⟩)
      (R := fun q => q ≤ t.n) (m := fun q => t.n - q) 0 [(2, 2), (3, 3), (200, 200)] rfl rfl ⟨rfl, rfl, rfl, rfl, rfl, trivial⟩ (by simp) (Nat.zero_le _) ⟨rfl, rfl, rfl, trivial⟩ ?_
    rintro q hq0
    refine KW.goIf lay_ok T_ok 100 rfl (by simp) rfl trivial (fun h => ?_) fun h => ?_
    · have hq : q < t.n := by simpa using h
      have hex : ∃ i, i < t.n ∧ t.k q = t.k i := ⟨q, hq, rfl⟩
      refine KW.goDV lay_ok T_ok rfl 100 rfl 7 5 200 rfl (by decide +kernel) (by decide +kernel) rfl rfl rfl ?_ ?_ ?_
      · simp
        try omega
      · simp only [Int.toNat_natCast, Nat.zero_add, Tr.cell_1, unTr_cells, isKs_ks, true_and, and_true]
        exact ⟨hex, by simp [ksL]; omega⟩
      · refine KW.catG 23 (t.k q) rfl (fun p hp => ?_) ?_
        · simp only [Int.toNat_natCast, Nat.zero_add, Tr.cell_1, unTr_cells]
          match p, hp with
          | 0, _ => exact CVEq.refl _
          | 1, _ => exact CVEq.refl _
          | 2, _ => exact CVEq.refl _
        refine KW.goToR lay_ok T_ok 100 rfl (q + 1) [(2, 2), (3, 3), (200, 23)] rfl rfl ⟨rfl, rfl, rfl, rfl, rfl, trivial⟩ (by simp [inK]; omega) ⟨by omega, by omega⟩ ⟨rfl, rfl, ?_, trivial⟩
        rw [ksL_succ]; rfl
    · have hq : q = t.n := by simp at h; omega
      subst hq
      refine KW.goOut lay_ok T_ok 100 rfl (by simp) ?_
      refine KW.frzB 3 1 200 rfl rfl rfl rfl ?_
      refine KW.convB 3 1 t.ks rfl rfl (ksL_ks t) ?_
      exact KW.goRetC lay_ok T_ok 100 rfl rfl rfl (by simp) trivial
def U7 : Fns := (57, fT (fun x => .e (trV x)) fun x => x.nar) ::
  (22, fIL (fun v l => .tup [trV (fullV v l), eV (fullE v l)]) fun _ _ => True) ::
  U6
theorem U7_ok : FnsOk Tryd.prog U7 := .cons (.cons (U6_ok) Tryd.func22 rfl rfl (fIL_ok fun v l _ => fullX_does v l)) Tryd.func57 rfl rfl (fT_ok fun x h => copied_does x h)


end Go.Proofs.YtpkjbchplkfmhaaDoor
