/-
  sets.Next, sets.Parts, sets.Text; the examples of layer 5.
-/
import Derived.Test.YtdeoicedbphgoaaGreatDoorStA
import Derived.Test.YtdeoicedbphgoaaGreatDoorStB
import Derived.Test.YtdeoicedbphgoaaGreatDoorShelf2
set_option linter.unusedSectionVars false
set_option linter.unusedVariables false
set_option linter.unusedSimpArgs false
namespace Go.Pu
open Go.Sy
def unS : CV → List ByteArray
  | .sl n _ f => (List.range n).map fun e => match f e 0 with
    | .lit (.string b) => b
    | _ => ⟨#[]⟩
  | _ => []
def isS (x : CV) : Prop := CVEq x (strs (unS x))
@[simp] theorem unS_strs (l : List ByteArray) : unS (strs l) = l := by
  unfold unS strs rows
  refine List.ext_getElem (by simp) fun j h1 h2 => ?_
  simp [List.getD_eq_getElem?_getD, h2]
@[simp] theorem isS_strs (l : List ByteArray) : isS (strs l) := by unfold isS; rw [unS_strs]; exact CVEq.refl _
def fSsS (g : List ByteArray → ByteArray → SV) (p : List ByteArray → ByteArray → Prop) : List EV → Option (SV × Prop)
  | [.c x, .c (.lit (.string s))] => some (g (unS x) s, isS x ∧ p (unS x) s)
  | _ => none
theorem fSsS_ok [Drw] {P : Program} {f : FuncId} {g : List ByteArray → ByteArray → SV} {p : List ByteArray → ByteArray → Prop} (h : ∀ x s, p x s → DoesF P f [.c (strs x), strV s] [] (g x s) []) : ∀ ys y φ, fSsS g p ys = some (y, φ) → φ → DoesF P f ys [] y [] := by
  intro ys y φ he hφ
  unfold fSsS at he
  split at he
  · simp only [Option.some.injEq, Prod.mk.injEq] at he
    obtain ⟨rfl, rfl⟩ := he
    refine DoesF.conv ?_ (h _ _ hφ.2)
    exact ⟨hφ.1, CVEq.refl _, trivial⟩
  · cases he
def itoaB (n : Nat) : ByteArray := ⟨(Lib.decDigits n).toArray⟩
theorem itoaB_small {n : Nat} (h : n < 10) : itoaB n = ⟨#[UInt8.ofNat (48 + n)]⟩ := by unfold itoaB; rw [Lib.decDigits, dif_pos h]
theorem itoaB_two {n : Nat} (h : ¬ n < 10) (h2 : n < 100) : itoaB n = ⟨#[UInt8.ofNat (48 + n / 10), UInt8.ofNat (48 + n % 10)]⟩ := by
  unfold itoaB; rw [Lib.decDigits, dif_neg h, Lib.decDigits, dif_pos (by omega)]; rfl
theorem itoaB_size {n : Nat} (h : n < 100) : (itoaB n).size ≤ 2 := by
  by_cases h1 : n < 10
  · rw [itoaB_small h1]; exact (by decide : 1 ≤ 2)
  · rw [itoaB_two h1 h]; exact Nat.le_refl _
theorem lens_le {l : List ByteArray} (h : ∀ b ∈ l, b.size ≤ 2) : Lib.lens (l.map (·.data.toList)) ≤ 2 * l.length := by
  induction l with
  | nil => simp [Lib.lens]
  | cons a l ih =>
    have h1 := ih fun b hb => h b (.tail _ hb)
    have h2 := h a (.head _)
    have e : a.data.toList.length = a.size := Array.length_toList
    have e2 : Lib.lens ((a :: l).map (·.data.toList)) = a.data.toList.length + Lib.lens (l.map (·.data.toList)) := by simp [Lib.lens]
    rw [e2, e, List.length_cons]
    omega
theorem joinB_size {l : List ByteArray} {sep : ByteArray} (hl : l.length ≤ 24) (h : ∀ b ∈ l, b.size ≤ 2) (hs : sep.size = 2) : (joinB l sep).size ≤ 100 := by
  have e : (joinB l sep).size = (Lib.join (l.map (·.data.toList)) sep.data.toList).length := List.size_toArray
  rw [e]
  cases l with
  | nil => simp [Lib.join_nil]
  | cons a l =>
    have h2 := lens_le h
    rw [List.map_cons] at h2 ⊢
    rw [Lib.join_length]
    have h3 : sep.data.toList.length = 2 := by rw [← hs]; exact Array.length_toList
    simp only [List.length_map, List.length_cons] at *
    rw [h3]
    omega
def sepB : ByteArray := ⟨#[44, 32]⟩
def textP (s : Int) : ByteArray × Int := if validS s = true then ((⟨#[123]⟩ ++ joinB ((elemsS s).map fun i => itoaB i.toNat) sepB) ++ ⟨#[125]⟩, 0) else (⟨#[]⟩, 3)
end Go.Pu
namespace Go.Proofs.YtdeoicedbphgoaaGreatDoor
open Go.Sy Go.Pu
attribute [local instance] drwNo

theorem nextG_does (s : Int) (hs : validS s = true) (h0 : s ≠ 0) : DoesF Tryz.prog 185 [iV s] [] (sI (nextG s)) [] := by
  refine DoesF.body _ Tryz.func185 rfl rfl rfl rfl ?_
  have hs' := validS_iff.1 hs
  obtain ⟨l1, l2⟩ := lowS_spec hs h0
  have l1' := validS_iff.1 l1
  have hr := next_rng hs h0
  refine KW.goRet lay_ok S0_ok 100 rfl rfl rfl ?_ trivial
  have e : iand .i64 s (-s) = lowS s := rfl
  simp only [e]
  simp [inK, bitsI]
  omega

def S1 : Fns := (185, fI (fun s => sI (nextG s)) fun s => validS s = true ∧ s ≠ 0) ::
  (121, fI (fun a => .e (strV (itoaB a.toNat))) fun a => 0 ≤ a ∧ a < 100) ::
  (122, fSsS (fun l s => .e (strV (joinB l s))) fun l s => l.length ≤ 24 ∧ (∀ b ∈ l, b.size ≤ 2) ∧ s.size = 2) ::
  S0
theorem S1_ok : FnsOk Tryz.prog S1 := .cons (.cons (.cons (S0_ok) Tryz.func122 rfl rfl (fSsS_ok fun l s h => join_does layJoin extraJoin rfl l s (by omega) (by have := joinB_size h.1 h.2.1 h.2.2; omega))) Tryz.func121 rfl rfl (fI_ok fun a h => by obtain ⟨n, rfl⟩ := Int.eq_ofNat_of_zero_le h.1; exact itoa_small_does layItoa rfl n (by omega))) Tryz.func185 rfl rfl (fI_ok fun s h => nextG_does s h.1 h.2)


theorem next_does (s : Int) : DoesF Tryz.prog 119 [iV s] [] (.tup [iV (nextP s).1, eV (nextP s).2]) [] := by
  refine DoesF.body _ Tryz.func119 rfl rfl rfl rfl ?_
  refine KW.goIf lay_ok S1_ok 100 rfl (by simp) rfl trivial (fun h => ?_) fun h => ?_
  · have h1 : ¬ validS s = true := by simpa using h
    refine KW.goRet lay_ok S1_ok 100 rfl rfl ?_ (by simp) trivial
    rw [nextP, if_neg h1]; rfl
  have h1 : validS s = true := by simpa using h
  refine KW.goIf lay_ok S1_ok 100 rfl (by simp) rfl trivial (fun h => ?_) fun h => ?_
  · have h2 : s = 0 := by simpa using h
    refine KW.goRet lay_ok S1_ok 100 rfl rfl ?_ (by simp) trivial
    rw [nextP, if_pos h1, if_pos h2]; rfl
  have h2 : ¬ s = 0 := by simpa using h
  refine KW.goIf lay_ok S1_ok 100 rfl (by simp [h1, h2]) rfl trivial (fun h => ?_) fun h => ?_
  · have h3 : validS (nextG s) = true := h
    refine KW.goRet lay_ok S1_ok 100 rfl rfl ?_ (by simp) trivial
    rw [nextP, if_pos h1, if_neg h2, if_pos h3]; rfl
  · have h3 : ¬ validS (nextG s) = true := by
      have h3 : validS (nextG s) = false := h
      rw [h3]; decide
    refine KW.goRet lay_ok S1_ok 100 rfl rfl ?_ (by simp) trivial
    rw [nextP, if_pos h1, if_neg h2, if_neg h3]; rfl

theorem parts_does (s : Int) : DoesF Tryz.prog 120 [iV s] [] (.tup [lV (partsP s).1, eV (partsP s).2]) [] := by
  refine DoesF.body _ Tryz.func120 rfl rfl rfl rfl ?_
  refine KW.goIf lay_ok S1_ok 100 rfl (by simp) rfl trivial (fun h => ?_) fun h => ?_
  · have h1 : ¬ validS s = true := by simpa using h
    rw [partsP, if_neg h1]
    refine KW.go lay_ok S1_ok 100 rfl (by simp) ?_
    refine KW.conv 2 (ints []) rfl ⟨rfl, rfl⟩ ?_
    exact KW.fin [] rfl rfl rfl trivial
  have h1 : validS s = true := by simpa using h
  have hs' := validS_iff.1 h1
  rw [partsP, if_pos h1]
  refine KW.goIf lay_ok S1_ok 100 rfl (by simp) rfl trivial (fun h => ?_) fun h => ?_
  · have h2 : 10 < cntS s := by simpa using h
    rw [if_pos h2]
    refine KW.go lay_ok S1_ok 100 rfl (by simp) ?_
    refine KW.conv 2 (ints []) rfl ⟨rfl, rfl⟩ ?_
    exact KW.fin [] rfl rfl rfl trivial
  have h2 : ¬ 10 < cntS s := by simpa using h
  rw [if_neg h2]
  refine KW.goLpR lay_ok S1_ok 100 rfl (I := fun q : List Int × Int => ⟨Tryz.f120.ntmps, [(0, sI s), (4, .e (.r 4)), (5, sI q.2)], [(4, .own 3 (ints q.1))]⟩)
    (R := fun q => (q.2 = 0 → ∀ t, validS t = true → (t ∈ q.1 ↔ Part t s)) ∧ (q.2 ≠ 0 → validS q.2 = true ∧ Part q.2 s ∧ (q.1.length : Int) ≤ q.2 ∧ (∀ t ∈ q.1, t < q.2) ∧ ∀ t, validS t = true → (t ∈ q.1 ↔ Part t s ∧ t < q.2)) ∧ (∀ t ∈ q.1, validS t = true) ∧ (q.1.Pairwise fun a b => a < b) ∧ q.1.length ≤ 16777216)
    (m := fun q => if q.2 = 0 then 0 else 16777217 - q.2.toNat) ([0], lowS s) [(4, 14)] rfl rfl ⟨rfl, rfl, rfl, trivial⟩ ?_ ?_ ⟨rfl, trivial⟩ ?_
  · simp [inK]; omega
  · have e : lowS s = nextX s 0 := by rw [lowS, nextX, iand_comm', Int.zero_sub]
    refine ⟨fun h => ?_, fun h => ?_, by simp [valid0], by simp, by simp⟩
    · by_cases h0 : s = 0
      · subst h0
        intro t ht
        rw [List.mem_singleton]
        exact ⟨fun h => by rw [h]; exact bit0 0, fun h => Part.antisymm ht valid0 h (bit0 t)⟩
      · exact absurd h (by have := (lowS_spec h1 h0).2; simp only; omega)
    · have h0 : s ≠ 0 := fun h0 => h (by subst h0; decide)
      obtain ⟨a1, a2, a3, a4⟩ := nextX_spec h1 valid0 (bit0 s) (Ne.symm h0)
      simp only
      rw [e]
      refine ⟨a1, a2, by simp; omega, by simp; exact a3, fun t ht => ?_⟩
      have ht' := validS_iff.1 ht
      rw [List.mem_singleton]
      constructor
      · rintro rfl; exact ⟨bit0 s, a3⟩
      · rintro ⟨hp, hlt⟩
        have := (a4 t ht hp).1 hlt
        omega
  rintro ⟨L, x⟩ ⟨r1, r2, r3, r4, r5⟩
  simp only at r1 r2 r3 r4 r5
  refine KW.goIf lay_ok S1_ok 100 rfl (by simp) rfl trivial (fun h => ?_) fun h => ?_
  · have hx : x ≠ 0 := by simpa using h
    obtain ⟨v1, v2, v3, v4, v5⟩ := r2 hx
    have hx' := validS_iff.1 v1
    refine KW.goToR lay_ok S1_ok 100 rfl (L ++ [x], nextX s x) [(4, 29)] rfl rfl ⟨rfl, rfl, rfl, trivial⟩ (by simp [inK]; omega) ⟨⟨fun he t ht => ?_, fun hn => ?_, fun t ht => ?_, ?_, ?_⟩, ?_⟩ ⟨own_cat _ rfl, trivial⟩
    · simp only at he
      have hxs : x = s := Classical.byContradiction fun hne => by
        have := (nextX_spec h1 v1 v2 hne).2.2.1
        omega
      subst hxs
      simp only [List.mem_append, List.mem_singleton]
      rw [v5 t ht]
      constructor
      · rintro (h | rfl)
        · exact h.1
        · exact Part.refl t
      · intro hp
        have := (part_le h1 ht hp).2
        by_cases htx : t = x
        · exact .inr htx
        · exact .inl ⟨hp, by omega⟩
    · simp only at hn
      have hxs : x ≠ s := fun e => hn (by rw [e]; exact nextX_end)
      obtain ⟨a1, a2, a3, a4⟩ := nextX_spec h1 v1 v2 hxs
      refine ⟨a1, a2, by simp; omega, fun t ht => ?_, fun t ht => ?_⟩
      · simp only [List.mem_append, List.mem_singleton] at ht
        rcases ht with ht | rfl
        · have := v4 t ht; simp only; omega
        · exact a3
      · simp only [List.mem_append, List.mem_singleton]
        rw [v5 t ht]
        constructor
        · rintro (h | rfl)
          · exact ⟨h.1, (a4 t ht h.1).2 (by omega)⟩
          · exact ⟨v2, a3⟩
        · rintro ⟨hp, hlt⟩
          have := (a4 t ht hp).1 hlt
          by_cases htx : t = x
          · exact .inr htx
          · exact .inl ⟨hp, by omega⟩
    · simp only [List.mem_append, List.mem_singleton] at ht
      rcases ht with ht | rfl
      · exact r3 t ht
      · exact v1
    · exact List.pairwise_append.2 ⟨r4, by simp, fun a ha b hb => by rw [List.mem_singleton.1 hb]; exact v4 a ha⟩
    · simp only [List.length_append, List.length_cons, List.length_nil]; omega
    · simp only
      rw [if_neg hx]
      by_cases hn : nextX s x = 0
      · rw [if_pos hn]; omega
      · rw [if_neg hn]
        have hxs : x ≠ s := fun e => hn (by rw [e]; exact nextX_end)
        obtain ⟨a1, a2, a3, a4⟩ := nextX_spec h1 v1 v2 hxs
        have := validS_iff.1 a1
        omega
  · have hx : x = 0 := by simpa using h
    have e := parts_eq h1 (r1 hx) r3 r4
    refine KW.goOut lay_ok S1_ok 100 rfl (by simp) ?_
    refine KW.go lay_ok S1_ok 100 rfl (by simp) ?_
    refine KW.callK0 (sortFunc_does (ks := fun _ => 0) (caps := fun _ _ => .lit undef) laySort laySort0 rfl rfl cmpS_swo (V := fun x => validS x = true) (fun x y => cmpS_eq) cmpS_total (enters Tryz.func47 rfl rfl) (@compare_does drwOn) 3 L r3 (by omega))
      (enters Tryz.func167 rfl rfl) [(0, 4)] [(0, 4)] [] (.inl rfl) rfl rfl rfl rfl rfl trivial
      ⟨⟨_, _, rfl, trivial, (show Mt _ _ _ (EV.ren [(0, 4)] (.r 0)) (.r 0) from .same)⟩, ⟨_, _, rfl, trivial, .conv (CVEq.refl _)⟩, trivial⟩ rfl ⟨rfl, trivial⟩ rfl ⟨.inr ⟨rfl, .inl rfl⟩, trivial⟩ rfl rfl (.inl rfl) ?_
    refine KW.go lay_ok S1_ok 100 rfl (by simp) ?_
    refine KW.frz 4 [2] rfl rfl rfl ?_
    refine KW.fin [] rfl rfl ?_ trivial
    rw [← e]; rfl
end Go.Proofs.YtdeoicedbphgoaaGreatDoor
