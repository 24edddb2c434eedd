/-
  strings.Builder: copyCheck, WriteString, String, walked; strconv.Itoa.
-/
import Derived.Test.YtpkjbchplkfmhaaDoorStP
import Derived.Test.YtpkjbchplkfmhaaDoorFnC
import Derived.Test.YtpkjbchplkfmhaaDoorSyX
import Derived.Test.YtpkjbchplkfmhaaDoorStR
import Derived.Test.YtpkjbchplkfmhaaDoorTrW
import Derived.Test.YtpkjbchplkfmhaaDoorShelf4
import Derived.Lib.Builder
import Derived.Lib.LaidTab
import Derived.Laws.Pointers
set_option linter.unusedSectionVars false
set_option linter.unusedVariables false
set_option linter.unusedSimpArgs false
namespace Go.Proofs.YtpkjbchplkfmhaaDoor
open Go.Sy Go.Pu
section
variable [Drw]
abbrev buR (p : EV) (X : CV) (b : Nat) : List (Nat × Res) := [(0, .box 93 [p, .r 1] (some b)), (1, .own 5 X)]
theorem ptrB {p : EV} {b : Nat} (s : Nat) (A : St) (hr : lk A.rs 0 = some (.box 93 [p, .r 1] (some b))) (hl : lk A.sl s = some (.e (.r 0))) (o h tm w) (hs : Sat o h A tm w) : ∃ b', h 0 = .pointer (some ⟨b', 0, none⟩) ∧ evl tm (.tmp s) = .pointer (some ⟨b', 0, none⟩) ∧ w.shape? b' = some (93, 2) := by
  obtain ⟨b', hb, hsh⟩ := hs.shape hr
  exact ⟨b', hb, (show evl tm (.tmp s) = h 0 from hs.slot s _ hl).trans hb, hsh⟩
theorem infoB : ∃ j, Tryd.prog.info? 93 = some j ∧ j.size = 2 := by
  have h2 : (Tryd.prog.info? 93).map (·.size) = some 2 := by kernel_rfl
  obtain ⟨j, h3, h4⟩ := Option.map_eq_some_iff.1 h2
  exact ⟨j, h3, h4⟩
theorem checkF_does (n : Nat) (f : Nat → Nat → CV) (b : Nat) : DoesF Tryd.prog 62 [.r 0] (buR (.c (.lit (.pointer none))) (.sl n 1 f) b) (.tup []) (buR (.r 0) (.sl n 1 f) b) := by
  refine DoesF.body _ Tryd.func62 rfl rfl rfl rfl ?_
  refine KW.go lay_ok (.nil _) 100 rfl (by simp) ?_
  refine KW.runV (sB true) rfl rfl rfl (fun o h tm w hs => ⟨_, run_exec_eqnil (p := none) rfl (show RepV o w (.lit (.pointer none)) (evl tm (.tmp 5)) from hs.slot 5 (.e (.c (.lit (.pointer none)))) rfl).1 (by kernel_rfl), rfl, rfl⟩) ?_
  refine KW.goIf lay_ok (.nil _) 100 rfl (by simp) rfl trivial (fun h => ?_) fun h => by cases h
  refine KW.go lay_ok (.nil _) 100 rfl (by simp) ?_
  obtain ⟨j, hj, hjs⟩ := infoB
  refine KW.runV (.e (.r 0)) rfl rfl rfl (fun o h tm w hs => ?_) ?_
  · obtain ⟨b', hb, hx, hsh⟩ := ptrB 8 _ rfl rfl o h tm w hs
    refine ⟨_, ?_, hb.symm⟩
    simp only [execOp, hx]
    exact value_of (Go.Lib.run_to_unsafe w ⟨b', 0, none⟩ (by kernel_rfl) (by kernel_rfl) hj (by rw [hjs]; decide) hsh (Nat.zero_lt_succ 1))
  refine KW.runV (.e (.r 0)) rfl rfl rfl (fun o h tm w hs => ?_) ?_
  · obtain ⟨b', hb, hx, hsh⟩ := ptrB 9 _ rfl rfl o h tm w hs
    refine ⟨_, ?_, hb.symm⟩
    have hcall := run_callFunc_extern (P := Tryd.prog) Tryd.func66 (by kernel_rfl) (by kernel_rfl) (by kernel_rfl) (e := Extern.AbiNoEscape.same) (by kernel_rfl) #[.pointer (some ⟨b', 0, none⟩)] w
    rw [Go.Lib.run_noEscape] at hcall
    have hfv : evl tm (.func 66) = .func (.func 66) #[] #[] := rfl
    simp only [execOp, resolve, hfv]
    simp only [Deferred.ofValue, Sem.run_bind, Sem.run_pure, Result.andThen_ok, invoke, Array.empty_append, Array.append_empty]
    simp only [List.map_toArray, List.map_cons, List.map_nil, hx]
    exact hcall
  refine KW.runV (.e (.r 0)) rfl rfl rfl (fun o h tm w hs => ?_) ?_
  · obtain ⟨b', hb, hx, hsh⟩ := ptrB 10 _ rfl rfl o h tm w hs
    refine ⟨_, ?_, hb.symm⟩
    simp only [execOp, hx]
    exact value_of (Go.Lib.run_from_unsafe w ⟨b', 0, none⟩ (by kernel_rfl) (by kernel_rfl) hj hsh (by kernel_rfl))
  refine KW.go lay_ok (.nil _) 100 rfl (by simp) ?_
  exact KW.finN [(0, 0), (1, 1)] rfl rfl rfl (by exact ⟨rfl, rfl, trivial⟩)
theorem checkU_does (n : Nat) (f : Nat → Nat → CV) (b : Nat) : DoesF Tryd.prog 62 [.r 0] (buR (.r 0) (.sl n 1 f) b) (.tup []) (buR (.r 0) (.sl n 1 f) b) := by
  refine DoesF.body _ Tryd.func62 rfl rfl rfl rfl ?_
  refine KW.go lay_ok (.nil _) 100 rfl (by simp) ?_
  refine KW.runV (sB false) rfl rfl rfl (fun o h tm w hs => ?_) ?_
  · obtain ⟨b', hb, hx, hsh⟩ := ptrB 5 _ rfl rfl o h tm w hs
    exact ⟨_, run_exec_eqnil (p := some ⟨b', 0, none⟩) rfl hx (by kernel_rfl), rfl, rfl⟩
  refine KW.goIf lay_ok (.nil _) 100 rfl (by simp) rfl trivial (fun h => by cases h) fun h => ?_
  refine KW.go lay_ok (.nil _) 100 rfl (by simp) ?_
  obtain ⟨j, hj, hjs⟩ := infoB
  refine KW.runV (sB false) rfl rfl rfl (fun o h tm w hs => ?_) ?_
  · obtain ⟨b', hb, hx, hsh⟩ := ptrB 17 _ rfl rfl o h tm w hs
    obtain ⟨b2, hb2, hx2, _⟩ := ptrB 18 _ rfl rfl o h tm w hs
    rw [hb] at hb2
    cases hb2
    exact ⟨_, run_exec_neqsame rfl hx hx2 (by kernel_rfl) hj, rfl, rfl⟩
  refine KW.goIf lay_ok (.nil _) 100 rfl (by simp) rfl trivial (fun h => by cases h) fun h => ?_
  refine KW.go lay_ok (.nil _) 100 rfl (by simp) ?_
  exact KW.finN [(0, 0), (1, 1)] rfl rfl rfl (by exact ⟨rfl, rfl, trivial⟩)
end
end Go.Proofs.YtpkjbchplkfmhaaDoor
