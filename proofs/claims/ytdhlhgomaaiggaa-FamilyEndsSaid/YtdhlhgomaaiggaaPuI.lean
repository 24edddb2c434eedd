/-
  MAXIMAL SETS, NUMBERS OF SETS BY SIZES, THE CHECK OF A FAMILY. No program is named here.
-/
import Derived.Test.YtdhlhgomaaiggaaPuH
set_option linter.unusedVariables false
set_option linter.unusedSimpArgs false
namespace Go.Pu
open Go.Sy Go.Sort Go.Lib Go.Proofs

theorem pcF_mono : ∀ (k n m : Nat), n &&& m = n → pcF k n ≤ pcF k m
  | 0, _, _, _ => Nat.le_refl _
  | k + 1, n, m, h => by
    rw [pcF_succ, pcF_succ]
    have h1 := pcF_mono k (n / 2) (m / 2) (by rw [← Nat.and_div_two, h])
    have h2 : n % 2 ≤ m % 2 := by
      have := Nat.and_mod_two_pow (a := n) (b := m) (n := 1)
      simp only [Nat.pow_one] at this
      rw [h] at this
      rw [this]; exact Nat.and_le_right
    omega
theorem part_le {p q : Int} (hp : validS p = true) (hq : validS q = true) (h : Part q p) : popc q ≤ popc p ∧ q ≤ p := by
  have hqp := (iand_part hq).2 h
  rw [validS_iff] at hp hq
  obtain ⟨m, rfl⟩ := Int.eq_ofNat_of_zero_le hp.1
  obtain ⟨n, rfl⟩ := Int.eq_ofNat_of_zero_le hq.1
  rw [iand_nat _ _ (by omega) (by omega)] at hqp
  have hnm : n &&& m = n := by exact_mod_cast hqp
  have hle : n ≤ m := by rw [← hnm]; exact Nat.and_le_right
  refine ⟨?_, by omega⟩
  unfold popc
  simp only [Int.toNat_natCast]
  exact_mod_cast pcF_mono 24 n m hnm
theorem asc_not_part {p q : Int} (hlt : cmpS p q < 0) (hp : validS p = true) (hq : validS q = true) : ¬ Part q p := by
  intro hpart
  rw [cmpS_neg, cutS_of hp, cutS_of hq] at hlt
  simp only [cntS, cutS_of hp, cutS_of hq] at hlt
  have := part_le hp hq hpart
  omega

def maxL : List Int → List Int
  | [] => []
  | x :: r => if r.any (fun t => subS x t) then maxL r else x :: maxL r
def maxS (l : List Int) : List Int := maxL (sortedL l)
theorem maxL_sub : ∀ r : List Int, (maxL r).Sublist r
  | [] => .slnil
  | x :: r => by
    rw [maxL]
    split
    · exact (maxL_sub r).cons _
    · exact (maxL_sub r).cons_cons _
theorem maxL_mem : ∀ (r : List Int), Asc r → Val r → ∀ z, z ∈ maxL r ↔ z ∈ r ∧ ∀ y ∈ r, Part z y → y = z
  | [], _, _, z => by simp [maxL]
  | x :: r, ha, hv, z => by
    have pa := List.pairwise_cons.1 ha
    have hx := hv x (.head _)
    have hr : Val r := fun y hy => hv y (.tail _ hy)
    have ih := maxL_mem r pa.2 hr z
    have hany : (r.any fun t => subS x t) = true ↔ ∃ t ∈ r, Part x t := by
      rw [List.any_eq_true]
      exact ⟨fun ⟨t, h1, h2⟩ => ⟨t, h1, (subS_iff hx).1 h2⟩, fun ⟨t, h1, h2⟩ => ⟨t, h1, (subS_iff hx).2 h2⟩⟩
    have irr : ∀ t ∈ r, t ≠ x := by
      rintro t ht rfl
      have := pa.1 t ht
      simp [cmpS_neg] at this
    rw [maxL]
    by_cases h : (r.any fun t => subS x t) = true
    · rw [if_pos h, ih]
      obtain ⟨t, ht, hp⟩ := hany.1 h
      constructor
      · rintro ⟨h1, h2⟩
        refine ⟨.tail _ h1, fun y hy hpz => ?_⟩
        rcases List.mem_cons.1 hy with rfl | hy
        · exact absurd hpz (asc_not_part (pa.1 z h1) hx (hr z h1))
        · exact h2 y hy hpz
      · rintro ⟨h1, h2⟩
        rcases List.mem_cons.1 h1 with rfl | h1
        · exact absurd (h2 t (.tail _ ht) hp) (irr t ht)
        · exact ⟨h1, fun y hy => h2 y (.tail _ hy)⟩
    · rw [if_neg h, List.mem_cons, ih]
      have hno : ∀ t ∈ r, ¬ Part x t := fun t ht hp => h (hany.2 ⟨t, ht, hp⟩)
      constructor
      · rintro (rfl | ⟨h1, h2⟩)
        · refine ⟨.head _, fun y hy hpz => ?_⟩
          rcases List.mem_cons.1 hy with rfl | hy
          · rfl
          · exact absurd hpz (hno y hy)
        · refine ⟨.tail _ h1, fun y hy hpz => ?_⟩
          rcases List.mem_cons.1 hy with rfl | hy
          · exact absurd hpz (asc_not_part (pa.1 z h1) hx (hr z h1))
          · exact h2 y hy hpz
      · rintro ⟨h1, h2⟩
        rcases List.mem_cons.1 h1 with rfl | h1
        · exact .inl rfl
        · exact .inr ⟨h1, fun y hy => h2 y (.tail _ hy)⟩
theorem mem_maxS {l : List Int} (hv : Val l) (x : Int) : x ∈ maxS l ↔ x ∈ l ∧ ∀ y ∈ l, Part x y → y = x := by
  have h := sortedL_spec hv
  unfold maxS
  rw [maxL_mem _ h.1 (fun y hy => hv y ((h.2 y).1 hy))]
  simp only [h.2]
theorem maxS_asc {l : List Int} (hv : Val l) : Asc (maxS l) := (sortedL_spec hv).1.sublist (maxL_sub _)
theorem Val.maxS {l : List Int} (hv : Val l) : Val (maxS l) := fun x hx => hv x ((mem_maxS hv x).1 hx).1
theorem maxS_length (l : List Int) : (maxS l).length ≤ l.length := Nat.le_trans (maxL_sub _).length_le (sortedL_length l)

/-- an antichain, sorted: it is its own sorted list, its own minimal and its own maximal sets -/
theorem anti {l : List Int} (hv : Val l) (ha : Asc l) (h : ∀ x ∈ l, ∀ y ∈ l, Part y x → y = x) : sortedL l = l ∧ minS l = l ∧ maxS l = l ∧ sortS l = l := by
  have hs := sortedL_spec hv
  have e1 : sortedL l = l := Asc.unique hs.1 ha hs.2
  refine ⟨e1, Asc.unique (minS_asc hv) ha fun x => ?_, Asc.unique (maxS_asc hv) ha fun x => ?_, (sortedL_eq hv).symm.trans e1⟩
  · rw [mem_minS hv]; exact ⟨fun a => a.1, fun a => ⟨a, fun y hy hp => h x a y hy hp⟩⟩
  · rw [mem_maxS hv]; exact ⟨fun a => a.1, fun a => ⟨a, fun y hy hp => (h y hy x a hp).symm⟩⟩
theorem anti_min {l : List Int} (hv : Val l) : sortedL (minS l) = minS l ∧ minS (minS l) = minS l ∧ maxS (minS l) = minS l ∧ sortS (minS l) = minS l :=
  anti hv.minS (minS_asc hv) fun x hx y hy hp => ((mem_minS hv x).1 hx).2 y ((mem_minS hv y).1 hy).1 hp
theorem anti_max {l : List Int} (hv : Val l) : sortedL (maxS l) = maxS l ∧ minS (maxS l) = maxS l ∧ maxS (maxS l) = maxS l ∧ sortS (maxS l) = maxS l :=
  anti hv.maxS (maxS_asc hv) fun x hx y hy hp => (((mem_maxS hv y).1 hy).2 x ((mem_maxS hv x).1 hx).1 hp).symm

/-- above every set of a list lies a maximal one -/
theorem above {l : List Int} (hv : Val l) {t : Int} (ht : t ∈ l) : ∃ u ∈ maxS l, Part t u := by
  have : ∀ n (t : Int), 16777215 - t.toNat ≤ n → t ∈ l → ∃ u ∈ maxS l, Part t u := by
    intro n
    induction n with
    | zero =>
      intro t hn ht
      refine ⟨t, (mem_maxS hv t).2 ⟨ht, fun y hy hp => ?_⟩, Part.refl t⟩
      have h1 := validS_iff.1 (hv t ht)
      have h2 := validS_iff.1 (hv y hy)
      have h3 := (part_le (hv y hy) (hv t ht) hp).2
      omega
    | succ n ih =>
      intro t hn ht
      by_cases hm : ∀ y ∈ l, Part t y → y = t
      · exact ⟨t, (mem_maxS hv t).2 ⟨ht, hm⟩, Part.refl t⟩
      · have : ∃ y ∈ l, Part t y ∧ y ≠ t := Classical.byContradiction fun hn => hm fun y hy hp => Classical.byContradiction fun hne => hn ⟨y, hy, hp, hne⟩
        obtain ⟨y, hy, hp, hne⟩ := this
        have h1 := validS_iff.1 (hv t ht)
        have h2 := validS_iff.1 (hv y hy)
        have h3 := (part_le (hv y hy) (hv t ht) hp).2
        obtain ⟨u, hu, hup⟩ := ih y (by omega) hy
        exact ⟨u, hu, hp.trans hup⟩
  exact this _ t (Nat.le_refl _) ht
theorem below {l : List Int} (hv : Val l) {t : Int} (ht : t ∈ l) : ∃ u ∈ minS l, Part u t := (cov_minS hv t).2 ⟨t, ht, Part.refl t⟩

/-- the number of Check's error -/
def checkE (l : List Int) : Int := if listE l = 0 then if l = sortedL l then if (minS l).length = l.length then 0 else 2 else 13 else listE l

/-! numbers of sets by sizes -/
def padL (n : Nat) (out : List Int) : List Int := out ++ List.replicate (n + 1 - out.length) 0
def bumpL (n : Nat) (out : List Int) : List Int := out.set n (out.getD n 0 + 1)
def sizeL (out : List Int) : List Int → List Int
  | [] => out
  | s :: r => sizeL (bumpL (cntS s).toNat (padL (cntS s).toNat out)) r
theorem padL_length (n : Nat) (out : List Int) : n < (padL n out).length ∧ out.length ≤ (padL n out).length ∧ (padL n out).length ≤ max out.length (n + 1) := by
  unfold padL
  rw [List.length_append, List.length_replicate]; omega
theorem sum_pad (n : Nat) (out : List Int) : (padL n out).sum = out.sum := by
  unfold padL
  rw [List.sum_append]
  have : ∀ k, (List.replicate k (0 : Int)).sum = 0 := fun k => by induction k <;> simp_all [List.replicate_succ]
  rw [this]; omega
theorem sum_set : ∀ (l : List Int) (n : Nat) (v : Int), n < l.length → (l.set n v).sum = l.sum - l.getD n 0 + v
  | x :: l, 0, v, _ => by simp; omega
  | x :: l, n + 1, v, h => by
    simp only [List.set_cons_succ, List.sum_cons, List.getD_cons_succ]
    rw [sum_set l n v (by simpa using h)]; omega
theorem sum_bump {n : Nat} {out : List Int} (h : n < out.length) : (bumpL n out).sum = out.sum + 1 := by
  unfold bumpL
  rw [sum_set _ _ _ h]; omega
theorem sum_sizeL : ∀ (r out : List Int), (sizeL out r).sum = out.sum + r.length
  | [], out => by simp [sizeL]
  | s :: r, out => by
    rw [sizeL, sum_sizeL r, sum_bump (padL_length _ _).1, sum_pad]
    simp only [List.length_cons]; omega
/-- every number lies between 0 and a bound, and there are few -/
def SzOk (out : List Int) (q : Nat) : Prop := out.length ≤ 25 ∧ ∀ x ∈ out, 0 ≤ x ∧ x ≤ q
theorem SzOk.step {out : List Int} {q n : Nat} (h : SzOk out q) (hn : n ≤ 24) : SzOk (bumpL n (padL n out)) (q + 1) := by
  obtain ⟨h1, h2⟩ := h
  have hp := padL_length n out
  have hpad : ∀ x ∈ padL n out, 0 ≤ x ∧ x ≤ (q : Int) := by
    intro x hx
    unfold padL at hx
    rcases List.mem_append.1 hx with hx | hx
    · exact h2 x hx
    · have := List.eq_of_mem_replicate hx
      omega
  refine ⟨by unfold bumpL; rw [List.length_set]; omega, fun x hx => ?_⟩
  unfold bumpL at hx
  rcases List.mem_or_eq_of_mem_set hx with hx | rfl
  · have := hpad x hx; omega
  · have hg : (padL n out).getD n 0 ∈ padL n out := by
      rw [List.getD_eq_getElem?_getD, List.getElem?_eq_getElem hp.1]; exact List.getElem_mem _
    have := hpad _ hg; omega
theorem cntS_le (s : Int) : 0 ≤ cntS s ∧ cntS s ≤ 24 := popc_le
theorem SzOk.sizeL : ∀ (r : List Int) {out : List Int} {q : Nat}, SzOk out q → SzOk (sizeL out r) (q + r.length)
  | [], out, q, h => by simpa [Pu.sizeL] using h
  | s :: r, out, q, h => by
    rw [Pu.sizeL]
    have := SzOk.sizeL r (h.step (n := (cntS s).toNat) (by have := cntS_le s; omega))
    rw [show q + (s :: r).length = q + 1 + r.length by simp; omega]
    exact this
theorem sum_bound {B : Int} (hB : 0 ≤ B) : ∀ (l : List Int), (∀ x ∈ l, 0 ≤ x ∧ x ≤ B) → 0 ≤ l.sum ∧ l.sum ≤ l.length * B
  | [], _ => by simp
  | x :: l, h => by
    have h1 := h x (.head _)
    have h2 := sum_bound hB l fun y hy => h y (.tail _ hy)
    simp only [List.sum_cons, List.length_cons, Int.natCast_add, Int.add_mul, Int.one_mul, Int.natCast_one]
    omega
end Go.Pu
