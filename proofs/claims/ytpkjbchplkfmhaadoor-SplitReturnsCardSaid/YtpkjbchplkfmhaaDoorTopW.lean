/-
  What the row's condition says of the table of powers of ten in a package variable, handed to a walk as a resource.
-/
import Derived.Test.YtpkjbchplkfmhaaDoorTrV
import Derived.Test.YtpkjbchplkfmhaaDoorTopA
import Derived.Test.YtpkjbchplkfmhaaDoorTopU
import Derived.Test.YtpkjbchplkfmhaaDoorRows
import Derived.LaidSub
import Derived.MakeChecks
import Derived.KernelRfl
set_option linter.unusedVariables false
set_option linter.unusedSectionVars false
attribute [local instance] Go.Sy.drwNo
namespace Go.Proofs.YtpkjbchplkfmhaaDoor
open Go.Sy Go.Pu Go.ChangeShapes Go.WideShapes Go.ChangeAt Go.RowKit
theorem walk_glo {P : Program} {f : FuncId} {ys : List EV} {args : Array Value} {W : World} {g T : Nat} {vs : List Value} (hg : W.heap[g]? = some (.cells vs.toArray T (0, 0))) (D : DoesF P f ys [(0, .glo g T vs)] (sB true) []) (hsz : args.size = ys.length)
    (ha : ∀ (j : Nat) y, ys[j]? = some y → EvOk (oldO W) (fun _ => undef) W y (args.getD j undef)) : Calls P f args W fun e w' => e = .returned (.bool true) ∧ Below W.heap.size W w' := by
  have hlt : g < W.heap.size := by
    refine Classical.byContradiction fun h => ?_
    rw [Array.getElem?_eq_none (by omega)] at hg; cases hg
  refine (D (oldO W) (fun _ => undef) args W ⟨hsz, fun b => ⟨fun i h => ?_, fun h => ?_⟩, fun s x hl => ?_, fun i r hl => ?_⟩).mono ?_
  · simp only [oldO] at h; split at h <;> cases h
  · simp only [oldO] at h; split at h
    · assumption
    · cases h
  · obtain ⟨_, _, y, hy, rfl⟩ := idx_lt ys 0 s x hl
    exact ha s y (by simpa using hy)
  · rw [lk_cons] at hl
    split at hl
    · cases hl
      exact ⟨by simp only [oldO, if_pos hlt], hg⟩
    · simp [lk] at hl
  · rintro e w' ⟨v, o', h', rfl, hs, hx⟩
    have hv : RepV o' w' (.lit (.bool true)) v := hs.slot 0 (sB true) (by rw [lk_cons, if_pos rfl])
    exact ⟨by rw [hv.1], ext_below hx⟩
theorem pow_laid {l : List (String × DataW Unit)} {W : World} (e : (l.filter fun x => x.1 == "internal/strconv.uint64pow10") = [("internal/strconv.uint64pow10", Lib.tabData .u64 Lib.pow10Tab)]) (h : laidMetH Tryd.prog l W) : ∃ T, W.heap[2]? = some (.cells powVs.toArray T (0, 0)) := by
  have h1 := h.filter fun x => x.1 == "internal/strconv.uint64pow10"
  rw [e, MakeChecks.laidMetH_plain _ _ _ (by kernel_rfl)] at h1
  have hg1 : Tryd.prog.globalNamed "internal/strconv.uint64pow10" = some 2 := by kernel_rfl
  have ht := Lib.tabIs_of_head (g := 2) (t := 133) (e := 120) (n := 20) hg1 (by kernel_rfl) (by kernel_rfl) (by kernel_rfl) (by kernel_rfl) (by kernel_rfl) h1
  obtain ⟨ps, ⟨g, t, cs, fuel, p, q, hg, hty, hv, hd, _, rfl⟩, _, hcell⟩ := h1
  obtain rfl := Option.some.inj (hg1.symm.trans hg)
  unfold Lib.TabIs at ht
  obtain rfl := Option.some.inj (hv.symm.trans ht)
  have hm := (hcell 2 0 (List.mem_append_left _ (List.mem_append_left _ (by simp [MemPlace.row]; decide)))).1
  obtain ⟨c, t', hc⟩ := hm
  have hv2 := hv
  unfold World.var? at hv2
  rw [hg1] at hv2
  simp only [Option.bind_some, hc, Option.some.injEq] at hv2
  refine ⟨t', ?_⟩
  rw [hc, hv2, powVs]
end Go.Proofs.YtpkjbchplkfmhaaDoor
