/-
  SYMBOLIC STATES, PART L: the engine: 'run' goes as far as nothing must be said ('run_ok': what it comes to is what the program does).
-/
import Derived.Test.YtpjhpcclbenfbaaSyK
set_option linter.unusedVariables false
set_option linter.unusedSimpArgs false
namespace Go.Sy

section
variable {P : Program} {lay : Lay} {A A' : St} {Q : Exit → St → Prop}

/-- what an operation adds to the state's two lists -/
def evF (lay : Lay) (A : St) (op : Oper) : Option (List (Nat × SV) × List (Nat × Res) × Prop) :=
  match op.op with
  | .alloc _ => match evE lay A op with
    | some (⟨_, x :: _, r :: _⟩, φ) => some ([x], [r], φ)
    | _ => none
  | .box _ _ => match evE lay A op with
    | some (⟨_, x :: _, r :: _⟩, φ) => some ([x], [r], φ)
    | _ => none
  | .buildSlice _ _ _ => match evE lay A op with
    | some (⟨_, x :: _, r :: _⟩, φ) => some ([x], [r], φ)
    | _ => none
  | .makeSlice _ _ _ => match evE lay A op with
    | some (⟨_, x :: _, r :: _⟩, φ) => some ([x], [r], φ)
    | _ => none
  | .store _ _ _ => match evS lay A op with
    | some (⟨_, _, r :: _⟩, φ) => some ([], [r], φ)
    | _ => none
  | .call _ => match evA lay A op with
    | some (⟨_, x :: _, r :: r' :: _⟩, φ) => some ([x], [r, r'], φ)
    | _ => none
  | _ => none

theorem evE_shape {op : Oper} {φ : Prop} (he : evE lay A op = some (A', φ)) : ∃ x r, A' = ⟨A.n, x :: A.sl, r :: A.rs⟩ := by
  unfold evE at he
  repeat' split at he
  all_goals first
    | (simp only [Option.some.injEq, Prod.mk.injEq] at he; obtain ⟨rfl, _⟩ := he; exact ⟨_, _, rfl⟩)
    | cases he

theorem evS_shape {op : Oper} {φ : Prop} (he : evS lay A op = some (A', φ)) : ∃ r, A' = ⟨A.n, A.sl, r :: A.rs⟩ := by
  unfold evS at he
  repeat' split at he
  all_goals first
    | (simp only [Option.some.injEq, Prod.mk.injEq] at he; obtain ⟨rfl, _⟩ := he; exact ⟨_, rfl⟩)
    | cases he

theorem evA_shape {op : Oper} {φ : Prop} (he : evA lay A op = some (A', φ)) : ∃ x r r', A' = ⟨A.n, x :: A.sl, r :: r' :: A.rs⟩ := by
  unfold evA at he
  repeat' split at he
  all_goals first
    | (simp only [Option.some.injEq, Prod.mk.injEq] at he; obtain ⟨rfl, _⟩ := he; exact ⟨_, _, _, rfl⟩)
    | cases he

theorem evE_ok (hl : LayOk P lay) {op : Oper} {φ : Prop} (he : evE lay A op = some (A', φ)) (hφ : φ) : OpStep P op A A' := by
  cases ho : op.op with
  | alloc T => cases hd : op.dst with
    | some d => exact evE_alloc hl ho hd he
    | none => simp [evE, ho, hd] at he
  | box T x => cases hd : op.dst with
    | some d => exact evE_box hl ho hd he hφ
    | none => simp [evE, ho, hd] at he
  | buildSlice T l ps => cases hd : op.dst with
    | some d => exact evE_build hl ho hd he hφ
    | none => simp [evE, ho, hd] at he
  | makeSlice T l c => cases hd : op.dst with
    | some d => exact evE_make hl ho hd he hφ
    | none => simp [evE, ho, hd] at he
  | _ => simp [evE, ho] at he

theorem evF_ok (hl : LayOk P lay) {op : Oper} {xs : List (Nat × SV)} {rs : List (Nat × Res)} {φ : Prop} (he : evF lay A op = some (xs, rs, φ)) (hφ : φ) :
    OpStep P op A ⟨A.n, xs ++ A.sl, rs ++ A.rs⟩ := by
  have kE : ∀ {xs rs φ}, (match evE lay A op with | some (⟨_, x :: _, r :: _⟩, φ) => some ([x], [r], φ) | _ => none) = some (xs, rs, φ) → φ → OpStep P op A ⟨A.n, xs ++ A.sl, rs ++ A.rs⟩ := by
    intro xs rs φ he hφ
    split at he
    · rename_i n x sl r rs' φ' hE
      simp only [Option.some.injEq, Prod.mk.injEq] at he
      obtain ⟨rfl, rfl, rfl⟩ := he
      obtain ⟨x', r', e⟩ := evE_shape hE
      simp only [St.mk.injEq, List.cons.injEq] at e
      obtain ⟨rfl, ⟨rfl, rfl⟩, rfl, rfl⟩ := e
      exact evE_ok hl hE hφ
    · cases he
  unfold evF at he
  split at he
  · exact kE he hφ
  · exact kE he hφ
  · exact kE he hφ
  · exact kE he hφ
  · split at he
    · rename_i n sl r rs' φ' hE
      simp only [Option.some.injEq, Prod.mk.injEq] at he
      obtain ⟨rfl, rfl, rfl⟩ := he
      obtain ⟨r', e⟩ := evS_shape hE
      simp only [St.mk.injEq, List.cons.injEq] at e
      obtain ⟨rfl, rfl, rfl, rfl⟩ := e
      exact evS_ok hl hE hφ
    · cases he
  · split at he
    · rename_i n x sl r r2 rs' φ' hE
      simp only [Option.some.injEq, Prod.mk.injEq] at he
      obtain ⟨rfl, rfl, rfl⟩ := he
      obtain ⟨x', r', r2', e⟩ := evA_shape hE
      simp only [St.mk.injEq, List.cons.injEq] at e
      obtain ⟨rfl, ⟨rfl, rfl⟩, rfl, rfl, rfl⟩ := e
      exact evA_ok hl hE hφ
    · cases he
  · cases he

/-- one step, where nothing must be said -/
def step1 (lay : Lay) : List K → Exit → St → Option (List K × Exit × St × Prop)
  | .code c :: k, .normal, A => match c with
    | .seq x y => some (.code x :: .code y :: k, .normal, A, True)
    | .skip => some (k, .normal, A, True)
    | .label _ => some (k, .normal, A, True)
    | .block id c => some (.code c :: .blk id :: k, .normal, A, True)
    | .region _ ops false => some (.ops ops ops.toList :: k, .normal, A, True)
    | .exit id => some (k, .exit id, A, True)
    | .ret => some (k, .ret, A, True)
    | _ => none
  | .ops all l :: k, .normal, ⟨n, sl, rs⟩ => match l with
    | [] => some (k, .normal, ⟨n, sl, rs⟩, True)
    | o :: rest => match o.guard with
      | none => match evP lay ⟨n, sl, rs⟩ o, o.dst with
        | some (sv, φ), some d => match Nat.blt d n with
          | true => some (.ops all rest :: k, .normal, ⟨n, (d, sv) :: sl, rs⟩, φ)
          | false => none
        | _, _ => match evF lay ⟨n, sl, rs⟩ o with
          | some ([x], [r], φ) => some (.ops all rest :: k, .normal, ⟨n, x :: sl, r :: rs⟩, φ)
          | some ([], [r], φ) => some (.ops all rest :: k, .normal, ⟨n, sl, r :: rs⟩, φ)
          | some ([x], [r, r'], φ) => some (.ops all rest :: k, .normal, ⟨n, x :: sl, r :: r' :: rs⟩, φ)
          | _ => none
      | some (j, want) => match gdOf ⟨n, sl, rs⟩ all j want, evP lay ⟨n, sl, rs⟩ o, o.dst with
        | some b, some (.e x, φ), some d => match Nat.blt d n with
          | true => some (.ops all rest :: k, .normal, ⟨n, (d, .e (.gd b x)) :: sl, rs⟩, b = true → φ)
          | false => none
        | _, _, _ => none
  | .blk _ :: k, .normal, A => some (k, .normal, A, True)
  | .code _ :: k, .exit id, A => some (k, .exit id, A, True)
  | .ops _ _ :: k, .exit id, A => some (k, .exit id, A, True)
  | .blk id' :: k, .exit id, A => match Nat.beq id' id with
    | true => some (k, .normal, A, True)
    | false => some (k, .exit id, A, True)
  | _ :: k, .ret, A => some (k, .ret, A, True)
  | _, _, _ => none

theorem step1_ok (hl : LayOk P lay) {k k' : List K} {e e' : Exit} {φ : Prop} (h : step1 lay k e A = some (k', e', A', φ)) (hφ : φ) (hn : KW P k' e' A' Q) : KW P k e A Q := by
  unfold step1 at h
  split at h
  · split at h <;> first
      | (simp only [Option.some.injEq, Prod.mk.injEq] at h; obtain ⟨rfl, rfl, rfl, _⟩ := h
         first | exact KW.seq hn | exact KW.skip hn | exact KW.label hn | exact KW.block hn | exact KW.region hn | exact KW.exit hn | exact KW.ret hn)
      | cases h
  · rename_i all l k0 n sl rs
    split at h
    · simp only [Option.some.injEq, Prod.mk.injEq] at h; obtain ⟨rfl, rfl, rfl, _⟩ := h
      exact KW.ops_nil hn
    · rename_i o rest
      split at h
      · rename_i hg
        split at h
        · rename_i sv φ' d hev hd
          split at h
          · rename_i hlt
            simp only [Option.some.injEq, Prod.mk.injEq] at h; obtain ⟨rfl, rfl, rfl, rfl⟩ := h
            exact KW.op hg (OpStep.pure hl hev hd (by simpa [Nat.blt, Nat.succ_le_iff] using hlt) hφ) hn
          · cases h
        · split at h
          · rename_i x r φ' hF
            simp only [Option.some.injEq, Prod.mk.injEq] at h; obtain ⟨rfl, rfl, rfl, rfl⟩ := h
            exact KW.op hg (evF_ok hl hF hφ) hn
          · rename_i r φ' hF
            simp only [Option.some.injEq, Prod.mk.injEq] at h; obtain ⟨rfl, rfl, rfl, rfl⟩ := h
            exact KW.op hg (evF_ok hl hF hφ) hn
          · rename_i x r r' φ' hF
            simp only [Option.some.injEq, Prod.mk.injEq] at h; obtain ⟨rfl, rfl, rfl, rfl⟩ := h
            exact KW.op hg (evF_ok hl hF hφ) hn
          · cases h
      · rename_i j want hg
        split at h
        · rename_i b x φ' d hb hev hd
          split at h
          · rename_i hlt
            simp only [Option.some.injEq, Prod.mk.injEq] at h; obtain ⟨rfl, rfl, rfl, rfl⟩ := h
            exact KW.gd hl hg hb hev hd (by simpa [Nat.blt, Nat.succ_le_iff] using hlt) hφ hn
          · cases h
        · cases h
  · simp only [Option.some.injEq, Prod.mk.injEq] at h; obtain ⟨rfl, rfl, rfl, _⟩ := h; exact KW.blk hn
  · simp only [Option.some.injEq, Prod.mk.injEq] at h; obtain ⟨rfl, rfl, rfl, _⟩ := h; exact KW.pop_code (by simp) hn
  · simp only [Option.some.injEq, Prod.mk.injEq] at h; obtain ⟨rfl, rfl, rfl, _⟩ := h; exact KW.pop_ops (by simp) hn
  · rename_i id' k0 id A0
    split at h
    · rename_i hb
      have hb := Nat.eq_of_beq_eq_true hb
      subst hb
      simp only [Option.some.injEq, Prod.mk.injEq] at h; obtain ⟨rfl, rfl, rfl, _⟩ := h; exact KW.blk_exit hn
    · rename_i hb
      simp only [Option.some.injEq, Prod.mk.injEq] at h; obtain ⟨rfl, rfl, rfl, _⟩ := h
      exact KW.blk_other (by rintro rfl; simp at hb) hn
  · rename_i A0 x k0
    simp only [Option.some.injEq, Prod.mk.injEq] at h; obtain ⟨rfl, rfl, rfl, _⟩ := h
    cases x with
    | code c => exact KW.pop_code (by simp) hn
    | ops all l => exact KW.pop_ops (by simp) hn
    | blk id => exact KW.blk_ret hn
  · cases h

def run (lay : Lay) : Nat → List K → Exit → St → Prop → List K × Exit × St × Prop
  | 0, k, e, A, φ => (k, e, A, φ)
  | f + 1, k, e, A, φ => match step1 lay k e A with
    | some (k', e', A', ψ) => run lay f k' e' A' (φ ∧ ψ)
    | none => (k, e, A, φ)

theorem run_ok (hl : LayOk P lay) : ∀ (f : Nat) {k k' : List K} {e e' : Exit} {A A' : St} {φ φ' : Prop}, run lay f k e A φ = (k', e', A', φ') → φ' → KW P k' e' A' Q → φ ∧ KW P k e A Q
  | 0, k, k', e, e', A, A', φ, φ', h, hφ, hn => by
    simp only [run, Prod.mk.injEq] at h
    obtain ⟨rfl, rfl, rfl, rfl⟩ := h
    exact ⟨hφ, hn⟩
  | f + 1, k, k', e, e', A, A', φ, φ', h, hφ, hn => by
    simp only [run] at h
    split at h
    · rename_i k1 e1 A1 ψ hs
      obtain ⟨⟨h1, h2⟩, h3⟩ := run_ok hl f h hφ hn
      exact ⟨h1, step1_ok hl hs h2 h3⟩
    · simp only [Prod.mk.injEq] at h
      obtain ⟨rfl, rfl, rfl, rfl⟩ := h
      exact ⟨hφ, hn⟩

theorem KW.run (hl : LayOk P lay) (f : Nat) {k k' : List K} {e e' : Exit} {φ : Prop} (h : Sy.run lay f k e A True = (k', e', A', φ)) (hφ : φ) (hn : KW P k' e' A' Q) : KW P k e A Q :=
  (run_ok hl f h hφ hn).2
end

end Go.Sy
