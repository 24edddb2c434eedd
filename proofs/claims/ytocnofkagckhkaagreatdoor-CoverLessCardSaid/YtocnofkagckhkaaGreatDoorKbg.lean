/-
 CvF, CvG, CvH, CvJ, TrL, StR, Shelf4, StP, StQ, TrT, CvI, CvL, CvM, SyW, CvO, TopA, TopB, TopF, TopX, TopP, one text.
-/
import Derived.Test.YtocnofkagckhkaaGreatDoorKbf
import Derived.Shelf.Strconv.Itoa3
import Derived.Shelf.Strconv.Atoi
import Derived.Lib.SmallJoins
import Derived.Lib.LaidTab
import Derived.Shelf.Strings.Builder1
import Derived.Shelf.LaysM
import Derived.Test.YtocnofkagckhkaaGreatDoorProg
import Derived.KernelRfl
import Derived.Lib.AppendStr
import Derived.Lib.UnsafeStr
import Derived.Lib.Builder
import Derived.Laws.Pointers
import Derived.Laws.Externs
import Derived.Lib.AppendIntMem
import Derived.ProofKit
import Derived.OpenShut
import Derived.ShutString
import Derived.ChangeOld
import Derived.Below
import Derived.Deep.Strs
import Derived.Test.YtocnofkagckhkaaGreatDoorRows
import Derived.HandedShaped
import Derived.LaidSub
import Derived.MakeChecks
import Derived.Shelf.Vars
set_option linter.unusedSectionVars false
set_option linter.unusedVariables false
set_option linter.unusedSimpArgs false
section
namespace Go.Proofs.YtocnofkagckhkaaGreatDoor
open Go.Sy Go.Pu Go.Proofs.YtocnofkagckhkaaGreatDoor.Tr
variable [Drw]
def headE (l : List Int) : Int := l.headD (-1)
theorem headE_none (s : Int) : ∀ k, (∀ i, i < k -> bit s i = false) -> elemsN s k = []
 | 0, _ => rfl
 | k + 1, h => by rw [elemsN_succ, headE_none s k fun i hi => h i (by omega), h k (by omega)]; rfl
theorem headE_at (s : Int) (c : Nat) (h : ∀ i, i < c -> bit s i = false) (hc : bit s c = true) : ∀ k, c < k -> headE (elemsN s k) = c
 | 0, hk => by omega
 | k + 1, hk => by
   rw [elemsN_succ]
   by_cases e : c = k
   ·subst e
    rw [headE_none s c h, hc]; rfl
   ·have := headE_at s c h hc k (by omega)
    unfold headE at this ⊢
    cases hl : elemsN s k with
    | nil => rw [hl] at this; simp at this
    | cons x r => rw [hl] at this; simpa using this
theorem headE_low {s : Int} (hs : validS s = true) (h : s ≠ 0) : headE (elemsS s) = lowB s := by
 obtain ⟨h1, h2, h3⟩ := lowB_spec hs h
 exact headE_at s (lowB s) h3 h2 24 h1
theorem rleastE_does (s : Int) : DoesF Tryz.prog 97 [iV s] [] (sI (headE (elemsS s))) [] := by
 refine DoesF.body _ Tryz.func97 rfl rfl rfl rfl ?_
 refine KW.goLpR lay_ok Y1_ok 100 rfl (I := fun q : Nat => ⟨Tryz.f97.ntmps, [(6, .e (lV (elemsS s))), (7, sI (elemsS s).length), (8, sI q)], []⟩)
  (R := fun q => q = 0) (m := fun q => 0) 0 [] rfl rfl ⟨rfl, rfl, rfl, trivial⟩ (by simp) rfl trivial ?_
 rintro q rfl
 refine KW.goIf lay_ok Y1_ok 100 rfl (by simp) rfl trivial (fun h => ?_) fun h => ?_
 ·have hq : 0 < (elemsS s).length := by have := of_decide_eq_true h; omega
  refine KW.goOutR lay_ok Y1_ok 100 rfl (by simpa using hq) ?_
  refine KW.goRet lay_ok Y1_ok 100 rfl rfl ?_ (by simp) trivial
  cases hl : elemsS s with
  | nil => rw [hl] at hq; exact absurd hq (Nat.lt_irrefl 0)
  | cons x r => rfl
 ·have hq : (elemsS s).length = 0 := by have := of_decide_eq_false h; omega
  refine KW.goOut lay_ok Y1_ok 100 rfl (by simp) ?_
  refine KW.goRet lay_ok Y1_ok 100 rfl rfl ?_ (by simp) trivial
  rw [List.length_eq_zero_iff.1 hq]; rfl
theorem growR_rng (cuts paths : List Int) : ∀ (f : Nat) (yes no l : Int), (growR cuts paths f yes no l).2 ≤ l /\ (0 < l -> -(f : Int) - 1 ≤ (growR cuts paths f yes no l).2) /\ (l ≤ 0 -> l - 1 ≤ (growR cuts paths f yes no l).2)
 | 0, _, _, l => by
   rw [growR]; exact ⟨Int.le_refl _, fun h => by simp only; omega, fun h => by simp only; omega⟩
 | f + 1, yes, no, l => by
   rw [growR]
   by_cases hbig : l - 1 < 0
   ·rw [if_pos hbig]; exact ⟨by simp only; omega, fun h => by simp only; omega, fun h => by simp only; omega⟩
   rw [if_neg hbig]
   cases hy : inYes cuts yes with
   | some i => exact ⟨by simp only; omega, fun h => by simp only; omega, fun h => by simp only; omega⟩
   | none =>
   cases hp : inYes paths no with
   | some i => exact ⟨by simp only; omega, fun h => by simp only; omega, fun h => by simp only; omega⟩
   | none =>
   cases ho : offNo cuts no with
   | none => exact ⟨by simp only; omega, fun h => by simp only; omega, fun h => by simp only; omega⟩
   | some i =>
     dsimp only
     have ia := growR_rng cuts paths f yes (ior .i64 no (Go.Pu.one (nextV cuts yes i))) (l - 1)
     generalize growR cuts paths f yes (ior .i64 no (Go.Pu.one (nextV cuts yes i))) (l - 1) = A at *
     have ib := growR_rng cuts paths f (ior .i64 yes (Go.Pu.one (nextV cuts yes i))) no A.2
     generalize growR cuts paths f (ior .i64 yes (Go.Pu.one (nextV cuts yes i))) no A.2 = B at *
     obtain ⟨a1, a2, a3⟩ := ia
     obtain ⟨b1, b2, b3⟩ := ib
     refine ⟨by omega, fun h => ?_, fun h => by omega⟩
     by_cases hl1 : 0 < l - 1
     ·have := a2 hl1
      by_cases hA : 0 < A.2
      ·have := b2 hA; omega
      ·have := b3 (by omega); omega
     ·have := a3 (by omega)
      by_cases hA : 0 < A.2
      ·have := b2 hA; omega
      ·have := b3 (by omega); omega
def growF (cuts paths : List Int) (f : Nat) : List EV -> Option (SV × Prop)
 | [.c a, .c b, .ag [.lit (.int .i64 yes), .lit (.int .i64 no)], .c (.lit (.int .i64 l))] => some (.tup [trV (growR cuts paths f yes no l).1, iV (growR cuts paths f yes no l).2], CVEq a (ints cuts) /\ CVEq b (ints paths) /\ freeC yes no < f /\ -100 ≤ l /\ l ≤ 4096)
 | _ => none
def rgrowOk (cuts paths : List Int) (f : Nat) : Prop := ∀ (yes no l : Int), freeC yes no < f -> -100 ≤ l -> l ≤ 4096 -> DoesF Tryz.prog 52 [lV cuts, lV paths, cuV yes no, iV l] [] (.tup [trV (growR cuts paths f yes no l).1, iV (growR cuts paths f yes no l).2]) []
theorem growF_ok {cuts paths : List Int} {f : Nat} (h : rgrowOk cuts paths f) : ∀ ys y φ, growF cuts paths f ys = some (y, φ) -> φ -> DoesF Tryz.prog 52 ys [] y [] := by
 intro ys y φ he hφ
 unfold growF at he
 split at he
 ·simp only [Option.some.injEq, Prod.mk.injEq] at he
  obtain ⟨rfl, rfl⟩ := he
  obtain ⟨h1, h2, h3, h4, h5⟩ := hφ
  refine DoesF.conv ?_ (h _ _ _ h3 h4 h5)
  exact ⟨h1, h2, ⟨rfl, fun q x y hx hy => by rw [hx] at hy; cases hy; exact CVEq.refl _⟩, CVEq.refl _, trivial⟩
 ·cases he
set_option maxHeartbeats 6400000 in
theorem rgrow_does (cuts paths : List Int) {n : Nat} (hn24 : n ≤ 24) (hcn : ∀ x ∈ cuts, inN n x) (hcl : cuts.length ≤ 1024) (hpl : paths.length ≤ 1024) (f : Nat) (hf25 : f ≤ 25) (hf : rgrowOk cuts paths f) : rgrowOk cuts paths (f + 1) := by
 intro yes no l hfree hl0 hl1
 have hcv : ∀ x ∈ cuts, validS x = true := fun x hx => (hcn x hx).1
 have T_ok : FnsOk Tryz.prog ((52, growF cuts paths f) :: (97, fI (fun s => sI (headE (elemsS s))) fun _ => True) :: Y1) :=
  .cons (.cons Y1_ok Tryz.func97 rfl rfl (fI_ok fun s _ => rleastE_does s)) Tryz.func52 rfl rfl (growF_ok hf)
 refine DoesF.bodyC lay_ok _ Tryz.func52 rfl rfl rfl rfl ?_
 refine KW.goIf lay_ok T_ok 100 rfl (by simp [inK]; omega) rfl trivial (fun h => ?_) fun h => ?_
 ·have h1 : l - 1 < 0 := by simpa using h
  rw [growR, if_pos h1]
  refine KW.go lay_ok T_ok 100 rfl (by simp) ?_
  refine KW.convB 8 1 Tr.no.ks rfl rfl ⟨rfl, rfl⟩ ?_
  exact KW.finC [] rfl rfl rfl trivial
 have h1 : ¬ l - 1 < 0 := by simpa using h
 rw [growR, if_neg h1]
 refine KW.goLpR lay_ok T_ok 100 rfl (I := fun q : Nat => ⟨Tryz.f52.ntmps, [(0, .e (lV cuts)), (1, .e (lV paths)), (3, sI (l - 1)), (6, .e (.r 6)), (8, .e (.r 8)), (26, .e (lV cuts)), (27, sI cuts.length), (28, sI q)], [(6, .box 54 [iV yes, iV no] none), (8, .box 28 [iV 0, .c (.lit (.slice none 0 0)), iV 0] none)]⟩)
  (R := fun q => q ≤ cuts.length /\ ∀ j, j < q -> (iandNot .i64 (cuts.getD j 0) yes == 0) = false) (m := fun q => cuts.length - q) 0 [(6, 6), (8, 8)] rfl rfl ⟨rfl, rfl, rfl, rfl, rfl, rfl, rfl, rfl, trivial⟩ (by simp [inK]) ⟨Nat.zero_le _, fun j hj => absurd hj (by omega)⟩ ⟨rfl, rfl, trivial⟩ ?_
 rintro q ⟨hq0, hz⟩
 refine KW.goIf lay_ok T_ok 100 rfl (by simp) rfl trivial (fun h => ?_) fun h => ?_
 ·have hq : q < cuts.length := by simp at h; omega
  have hgi : cuts.getD (Int.toNat (q : Int)) 0 = cuts.getD q 0 := by rw [Int.toNat_natCast]
  refine KW.goIf lay_ok T_ok 100 rfl (by simp; omega) rfl trivial (fun h => ?_) fun h => ?_
  ·have hb : (iandNot .i64 (cuts.getD q 0) yes == 0) = true := by rw [<-hgi]; exact h
   rw [show inYes cuts yes = some q from firstB_some hq hb hz]
   refine KW.goOutR lay_ok T_ok 100 rfl (by simp) ?_
   refine KW.go lay_ok T_ok 100 rfl (by simp) ?_
   refine KW.convB 8 1 (Tr.lf q).ks rfl rfl ⟨rfl, rfl⟩ ?_
   exact KW.finC [] rfl rfl rfl trivial
  have hb : (iandNot .i64 (cuts.getD q 0) yes == 0) = false := by rw [<-hgi]; exact h
  refine KW.goToR lay_ok T_ok 100 rfl (q + 1) [(6, 6), (8, 8)] rfl rfl ⟨rfl, rfl, rfl, rfl, rfl, rfl, rfl, rfl, trivial⟩ (by simp [inK]; omega) ⟨⟨by omega, fun j hj => ?_⟩, by omega⟩ ⟨rfl, rfl, trivial⟩
  by_cases hjq : j = q
  ·rw [hjq]; exact hb
  ·exact hz j (by omega)
 have hy : inYes cuts yes = none := firstB_none.2 fun j hj => hz j (by simp at h; omega)
 rw [hy]
 clear h hz hq0
 refine KW.goOut lay_ok T_ok 100 rfl (by simp) ?_
 refine KW.goLpR lay_ok T_ok 100 rfl (I := fun q : Nat => ⟨Tryz.f52.ntmps, [(0, .e (lV cuts)), (1, .e (lV paths)), (3, sI (l - 1)), (6, .e (.r 6)), (8, .e (.r 8)), (42, .e (lV paths)), (43, sI paths.length), (44, sI q)], [(6, .box 54 [iV yes, iV no] none), (8, .box 28 [iV 0, .c (.lit (.slice none 0 0)), iV 0] none)]⟩)
  (R := fun q => q ≤ paths.length /\ ∀ j, j < q -> (iandNot .i64 (paths.getD j 0) no == 0) = false) (m := fun q => paths.length - q) 0 [(6, 6), (8, 8)] rfl rfl ⟨rfl, rfl, rfl, rfl, rfl, rfl, rfl, rfl, trivial⟩ (by simp [inK]) ⟨Nat.zero_le _, fun j hj => absurd hj (by omega)⟩ ⟨rfl, rfl, trivial⟩ ?_
 rintro q ⟨hq0, hz⟩
 refine KW.goIf lay_ok T_ok 100 rfl (by simp) rfl trivial (fun h => ?_) fun h => ?_
 ·have hq : q < paths.length := by simp at h; omega
  have hgi : paths.getD (Int.toNat (q : Int)) 0 = paths.getD q 0 := by rw [Int.toNat_natCast]
  refine KW.goIf lay_ok T_ok 100 rfl (by simp; omega) rfl trivial (fun h => ?_) fun h => ?_
  ·have hb : (iandNot .i64 (paths.getD q 0) no == 0) = true := by rw [<-hgi]; exact h
   rw [show inYes paths no = some q from firstB_some hq hb hz]
   refine KW.goOutR lay_ok T_ok 100 rfl (by simp [inK]; omega) ?_
   refine KW.go lay_ok T_ok 100 rfl (by simp) ?_
   refine KW.convB 8 1 (Tr.lf (-1 - (q : Int))).ks rfl rfl ⟨rfl, rfl⟩ ?_
   exact KW.finC [] rfl rfl rfl trivial
  have hb : (iandNot .i64 (paths.getD q 0) no == 0) = false := by rw [<-hgi]; exact h
  refine KW.goToR lay_ok T_ok 100 rfl (q + 1) [(6, 6), (8, 8)] rfl rfl ⟨rfl, rfl, rfl, rfl, rfl, rfl, rfl, rfl, trivial⟩ (by simp [inK]; omega) ⟨⟨by omega, fun j hj => ?_⟩, by omega⟩ ⟨rfl, rfl, trivial⟩
  by_cases hjq : j = q
  ·rw [hjq]; exact hb
  ·exact hz j (by omega)
 have hp : inYes paths no = none := firstB_none.2 fun j hj => hz j (by simp at h; omega)
 rw [hp]
 clear h hz hq0
 refine KW.goOut lay_ok T_ok 100 rfl (by simp) ?_
 refine KW.goLpR lay_ok T_ok 100 rfl (I := fun q : Nat => ⟨Tryz.f52.ntmps, [(0, .e (lV cuts)), (1, .e (lV paths)), (3, sI (l - 1)), (6, .e (.r 6)), (8, .e (.r 8)), (59, .e (lV cuts)), (60, sI cuts.length), (61, sI q)], [(6, .box 54 [iV yes, iV no] none), (8, .box 28 [iV 0, .c (.lit (.slice none 0 0)), iV 0] none)]⟩)
  (R := fun q => q ≤ cuts.length /\ ∀ j, j < q -> (iand .i64 (cuts.getD j 0) no == 0) = false) (m := fun q => cuts.length - q) 0 [(6, 6), (8, 8)] rfl rfl ⟨rfl, rfl, rfl, rfl, rfl, rfl, rfl, rfl, trivial⟩ (by simp [inK]) ⟨Nat.zero_le _, fun j hj => absurd hj (by omega)⟩ ⟨rfl, rfl, trivial⟩ ?_
 rintro q ⟨hq0, hz⟩
 refine KW.goIf lay_ok T_ok 100 rfl (by simp) rfl trivial (fun h => ?_) fun h => ?_
 ·have hq : q < cuts.length := by simp at h; omega
  have hgi : cuts.getD (Int.toNat (q : Int)) 0 = cuts.getD q 0 := by rw [Int.toNat_natCast]
  refine KW.goIf lay_ok T_ok 100 rfl (by simp; omega) rfl trivial (fun h => ?_) fun h => ?_
  ·have hb : (iand .i64 (cuts.getD q 0) no == 0) = false := by rw [<-hgi]; rw [bne, Bool.not_eq_true'] at h; exact h
   refine KW.goToR lay_ok T_ok 100 rfl (q + 1) [(6, 6), (8, 8)] rfl rfl ⟨rfl, rfl, rfl, rfl, rfl, rfl, rfl, rfl, trivial⟩ (by simp [inK]; omega) ⟨⟨by omega, fun j hj => ?_⟩, by omega⟩ ⟨rfl, rfl, trivial⟩
   by_cases hjq : j = q
   ·rw [hjq]; exact hb
   ·exact hz j (by omega)
  have hb : (iand .i64 (cuts.getD q 0) no == 0) = true := by rw [<-hgi]; rw [bne, Bool.not_eq_false'] at h; exact h
  have ho : offNo cuts no = some q := firstB_some hq hb hz
  rw [ho]
  dsimp only
  obtain ⟨v1, v2, v3⟩ := next_spec hn24 hcn hy ho
  have fa := free_no (yes := yes) (no := no) (by omega) v2 v3
  have fb := free_yes (yes := yes) (no := no) (by omega) v2 v3
  have hlow : headE (elemsS (iandNot .i64 (cuts.getD (Int.toNat (q : Int)) 0) yes)) = (nextV cuts yes q : Int) := by
   rw [hgi]
   exact headE_low (valid_iandNot (hcv _ (getD_mem hq))) (inYes_none hy _ (getD_mem hq))
  have hsh := shl_rng24 (v := (nextV cuts yes q : Int)) (by omega) (by omega)
  have hone : Go.Pu.one (nextV cuts yes q) = ishl 1 (nextV cuts yes q : Int) := rfl
  rw [hone] at fa fb ⊢
  have hA := growR_rng cuts paths f yes (ior .i64 no (ishl 1 (nextV cuts yes q : Int))) (l - 1)
  refine KW.goDV lay_ok T_ok rfl 100 rfl 17 16 17 rfl (by decide +kernel) (by decide +kernel) rfl rfl rfl ?_ ?_ ?_
  ·simp
  ·have hc1 := CVEq.refl (ints cuts)
   have hc2 := CVEq.refl (ints paths)
   simp only [hlow, hc1, hc2, true_and, and_true, inK, bitsI]
   omega
  simp only [hlow]
  generalize growR cuts paths f yes (ior .i64 no (ishl 1 (nextV cuts yes q : Int))) (l - 1) = A at *
  have hA2 : -100 ≤ A.2 := by
   obtain ⟨a1, a2, a3⟩ := hA
   by_cases hl2 : 0 < l - 1
   ·have := a2 hl2; omega
   ·have := a3 (by omega); omega
  have hA3 := hA.1
  refine KW.goDV lay_ok T_ok rfl 100 rfl 17 16 19 rfl (by decide +kernel) (by decide +kernel) rfl rfl rfl ?_ ?_ ?_
  ·simp
  ·have hc1 := CVEq.refl (ints cuts)
   have hc2 := CVEq.refl (ints paths)
   simp only [hlow, hc1, hc2, true_and, and_true, inK, bitsI]
   omega
  generalize growR cuts paths f (ior .i64 yes (ishl 1 (nextV cuts yes q : Int))) no A.2 = B at *
  refine KW.go lay_ok T_ok 100 rfl (by simp) ?_
  refine KW.frz 108 [108] rfl rfl rfl ?_
  refine KW.goOutR lay_ok T_ok 100 rfl (by simp) ?_
  refine KW.go lay_ok T_ok 100 rfl (by simp) ?_
  refine KW.convB 8 1 (Tr.two (nextV cuts yes q : Int) A.1 B.1).ks rfl rfl ?_ ?_
  ·exact two_rows _ _ _
  exact KW.finC [] rfl rfl rfl trivial
 have ho : offNo cuts no = none := firstB_none.2 fun j hj => hz j (by simp at h; omega)
 rw [ho]
 refine KW.goOut lay_ok T_ok 100 rfl (by simp) ?_
 refine KW.go lay_ok T_ok 100 rfl (by simp) ?_
 refine KW.convB 8 1 Tr.no.ks rfl rfl ⟨rfl, rfl⟩ ?_
 exact KW.finC [] rfl rfl rfl trivial
theorem rgrow_all (cuts paths : List Int) {n : Nat} (hn24 : n ≤ 24) (hcn : ∀ x ∈ cuts, inN n x) (hcl : cuts.length ≤ 1024) (hpl : paths.length ≤ 1024) : ∀ f, f ≤ 26 -> rgrowOk cuts paths f
 | 0, _ => fun _ _ _ h => absurd h (Nat.not_lt_zero _)
 | f + 1, hf => rgrow_does cuts paths hn24 hcn hcl hpl f (by omega) (rgrow_all cuts paths hn24 hcn hcl hpl f (by omega))
set_option maxHeartbeats 1600000 in
theorem rmake36_does (f : FormP) (hin : FormIn f) : DoesF Tryz.prog 22 [.ag (formC f)] [] (.tup [.ag (covC (makeC f)), iV (makeE f)]) [] := by
 refine DoesF.bodyC lay_ok _ Tryz.func22 rfl rfl rfl rfl ?_
 obtain ⟨vars, ns, top⟩ := f
 refine KW.goIf lay_ok Y1_ok 100 rfl (by simp only [unN_nodesC, isN_nodesC, true_and, and_true]; exact hin) rfl trivial (fun h => ?_) fun h => ?_
 ·have h1 : (pathsV ⟨vars, ns, top⟩).2 ≠ 0 := by simpa [unN_nodesC] using h
  refine KW.go lay_ok Y1_ok 100 rfl (by simp) ?_
  refine KW.convB 2 0 (ints []) rfl rfl ⟨rfl, rfl⟩ ?_
  refine KW.convB 2 1 (ints []) rfl rfl ⟨rfl, rfl⟩ ?_
  refine KW.convB 2 3 Tr.no.ks rfl rfl ⟨rfl, rfl⟩ ?_
  refine KW.finC [] rfl rfl ?_ trivial
  have e : makeE ⟨vars, ns, top⟩ = (pathsV ⟨vars, ns, top⟩).2 := by rw [makeE, if_neg h1]
  simp only [unN_nodesC, makeC, e, if_neg h1]; rfl
 have h1 : (pathsV ⟨vars, ns, top⟩).2 = 0 := by simpa [unN_nodesC] using h
 obtain ⟨p1, p2, p3⟩ := pathsV_zero h1
 have hv := (formE_ok (pathE_ok p2).1).vars
 obtain ⟨n, hn⟩ := Int.eq_ofNat_of_zero_le (show 0 ≤ vars from hv.1)
 have hn24 : n ≤ 24 := by simp only at hv; omega
 have hmk : makeE ⟨vars, ns, top⟩ = if hitE (pathsL ⟨vars, ns, top⟩) = 0 then (makeG ⟨vars, ns, top⟩).2.2 else hitE (pathsL ⟨vars, ns, top⟩) := by rw [makeE, if_pos h1]
 simp only [unN_nodesC, p1]
 refine KW.goIf lay_ok Y1_ok 100 rfl (by simp) rfl trivial (fun h => ?_) fun h => ?_
 ·have h2 : hitE (pathsL ⟨vars, ns, top⟩) ≠ 0 := by simpa using h
  refine KW.go lay_ok Y1_ok 100 rfl (by simp) ?_
  refine KW.convB 2 0 (ints []) rfl rfl ⟨rfl, rfl⟩ ?_
  refine KW.convB 2 1 (ints []) rfl rfl ⟨rfl, rfl⟩ ?_
  refine KW.convB 2 3 Tr.no.ks rfl rfl ⟨rfl, rfl⟩ ?_
  refine KW.finC [] rfl rfl ?_ trivial
  rw [if_neg h2] at hmk
  simp only [unI_ints, makeC, hmk, if_neg h2]; rfl
 have h2 : hitE (pathsL ⟨vars, ns, top⟩) = 0 := by simpa using h
 rw [if_pos h2] at hmk
 simp only [unI_ints, if_pos h2]
 obtain ⟨_, hpf⟩ := path_facts p2 hn
 obtain ⟨f1, f2, f3⟩ := hpf p3
 have hin2 := hit_in hn p2 p3 h2
 have hfam := (hit_facts p2 hn p3 h2).2.1
 have hr := grow_ref (paths := pathsL ⟨vars, ns, top⟩) hn24 (fun x hx => (hin2 x hx).1) (make_off hn p2 p3 h2) 25 0 0 0 (by decide) (by decide) (Nat.lt_succ_of_le (free_le 0 0))
 rw [show growP (hitL (pathsL ⟨vars, ns, top⟩)) (pathsL ⟨vars, ns, top⟩) 25 0 0 0 = makeG ⟨vars, ns, top⟩ from rfl] at hr
 refine KW.go lay_ok Y1_ok 100 rfl (by simp) ?_
 have D := rgrow_all (hitL (pathsL ⟨vars, ns, top⟩)) (pathsL ⟨vars, ns, top⟩) hn24 (fun x hx => (hin2 x hx).1) hfam.len f1.1.len 25 (by decide) 0 0 4096 (Nat.lt_succ_of_le (free_le 0 0)) (by decide) (by decide)
 have hmc : makeC ⟨vars, ns, top⟩ = if makeE ⟨vars, ns, top⟩ = 0 then ⟨hitL (pathsL ⟨vars, ns, top⟩), pathsL ⟨vars, ns, top⟩, (makeG ⟨vars, ns, top⟩).1⟩ else ⟨[], [], .no⟩ := rfl
 rw [hmk] at hmc ⊢
 rw [hmc]
 have e0 : (4096 : Int) - 0 = 4096 := by decide
 rw [e0] at hr
 generalize hRe : growR (hitL (pathsL ⟨vars, ns, top⟩)) (pathsL ⟨vars, ns, top⟩) 25 0 0 4096 = R at *
 generalize makeG ⟨vars, ns, top⟩ = G at *
 generalize hitL (pathsL ⟨vars, ns, top⟩) = H at *
 generalize pathsL ⟨vars, ns, top⟩ = P at *
 refine KW.callV0 D (enters Tryz.func52 rfl rfl) [] (.inl rfl) rfl rfl rfl rfl rfl trivial
  ⟨⟨_, _, rfl, trivial, .conv (CVEq.refl _)⟩, ⟨_, _, rfl, trivial, .conv (CVEq.refl _)⟩, ⟨_, _, rfl, trivial, (show Mt _ _ _ (EV.ren [] (cuV 0 0)) (cuV 0 0) from .same)⟩, ⟨_, _, rfl, trivial, .conv (CVEq.refl _)⟩, trivial⟩ rfl (.inl rfl) ?_
 refine KW.goIf lay_ok Y1_ok 100 rfl (by simp) rfl trivial (fun h => ?_) fun h => ?_
 ·have h3 : R.2 < 0 := by simpa using h
  have h4 : G.2.2 = 4 := by
   rcases hr with ⟨_, _, r3, r4⟩ | ⟨r1, _⟩
   ·rw [r4] at h3; simp only at h3; omega
   ·exact r1
  refine KW.go lay_ok Y1_ok 100 rfl (by simp) ?_
  refine KW.convB 2 0 (ints []) rfl rfl ⟨rfl, rfl⟩ ?_
  refine KW.convB 2 1 (ints []) rfl rfl ⟨rfl, rfl⟩ ?_
  refine KW.convB 2 3 Tr.no.ks rfl rfl ⟨rfl, rfl⟩ ?_
  refine KW.finC [] rfl rfl ?_ trivial
  rw [h4, if_neg (by decide)]; rfl
 have h3 : ¬ R.2 < 0 := by simpa using h
 obtain ⟨h4, h5⟩ : G.2.2 = 0 /\ R.1 = G.1 := by
  rcases hr with ⟨r1, _, r3, r4⟩ | ⟨_, _, _, r4⟩
  ·exact ⟨r1, by rw [r4]⟩
  ·exact absurd r4 h3
 rw [if_pos h4, h4, <-h5]
 exact KW.goRetC lay_ok Y1_ok 100 rfl rfl rfl (by simp) trivial
end Go.Proofs.YtocnofkagckhkaaGreatDoor
end
section
namespace Go.Proofs.YtocnofkagckhkaaGreatDoor
open Go.Sy Go.Pu Go.Proofs.YtocnofkagckhkaaGreatDoor.Tr
variable [Drw]
theorem broad36_does (f : FormP) (hin : FormIn f) (h0 : formE f = 0) : DoesF Tryz.prog 27 [.ag (formC f)] [] (sB (broadF f)) [] := by
 refine DoesF.body _ Tryz.func27 rfl rfl rfl rfl ?_
 have ok := formE_ok h0
 obtain ⟨vars, ns, top⟩ := f
 have hl := ok.len
 have hns := ok.nodes
 simp only at hl hns
 refine KW.goLpR lay_ok Y1_ok 100 rfl (I := fun q : Nat × Int × Int => ⟨Tryz.f27.ntmps, [(3, sI q.2.1), (4, sI q.2.2), (8, .e (.c (nodesC ns))), (9, sI ns.length), (10, sI q.1)], []⟩)
  (R := fun q => q.1 ≤ ns.length /\ q.2.1 + brA (ns.drop q.1) = brA ns /\ q.2.2 + brV (ns.drop q.1) = brV ns /\ 0 ≤ q.2.1 /\ q.2.1 ≤ 16 * q.1 /\ -300 * q.1 ≤ q.2.2 /\ q.2.2 ≤ 300 * q.1) (m := fun q => ns.length - q.1) (0, 0, 0) [] rfl rfl ⟨rfl, rfl, rfl, rfl, rfl, trivial⟩ (by simp) ⟨Nat.zero_le _, by simp, by simp, by simp, by simp, by simp, by simp⟩ trivial ?_
 rintro ⟨q, a, b⟩ ⟨g1, g2, g3, g4, g5, g6, g7⟩
 simp only at g1 g2 g3 g4 g5 g6 g7
 refine KW.goIf lay_ok Y1_ok 100 rfl (by simp) rfl trivial (fun h => ?_) fun h => ?_
 ·have hq : q < ns.length := by simpa using h
  have hX : ns.getD (Int.toNat (q : Int)) node0 = ns[q] := by simp [List.getD_eq_getElem?_getD, hq]
  have okX := hns q hq
  rw [List.drop_eq_getElem_cons hq, brA] at g2
  rw [List.drop_eq_getElem_cons hq, brV] at g3
  generalize ns[q] = X at hX okX g2 g3
  have h16 := argsB_le okX.cnt
  have hk := okX.k
  refine KW.goIf lay_ok Y1_ok 100 rfl (by simp only [hX]; simp [hq, inK]; omega) rfl trivial (fun h => ?_) fun h => ?_
  ·have k4 : X.kind = 4 := by
    simp only [hX] at h
    simpa using h
   have hkr : 1 ≤ X.k /\ X.k ≤ X.args.length := by
    unfold kE at hk
    rw [k4] at hk
    simp only [Int.reduceEq, if_false, if_true] at hk
    split at hk
    ·cases hk
    ·omega
   rw [if_pos k4] at g3
   have p1 : (0 : Int) ≤ (X.args.length : Int) * ((X.args.length : Int) - X.k + 1) := Int.mul_nonneg (by omega) (by omega)
   have p2 : (X.args.length : Int) * ((X.args.length : Int) - X.k + 1) ≤ 16 * 16 := Int.mul_le_mul (by omega) (by omega) (by omega) (by omega)
   refine KW.goToR lay_ok Y1_ok 100 rfl (q + 1, a + X.args.length, b + (X.args.length : Int) * ((X.args.length : Int) - X.k + 1)) [] rfl rfl ⟨by simp only [<-hX]; rfl, by simp only [<-hX]; rfl, rfl, rfl, rfl, trivial⟩ ?_ ⟨⟨by simp only; omega, by simp only; omega, by simp only; omega, by simp only; omega, by simp only; omega, by simp only; omega, by simp only; omega⟩, by simp only; omega⟩ trivial
   simp only [hX]
   generalize (X.args.length : Int) * ((X.args.length : Int) - X.k + 1) = P at *
   simp [inK]
   omega
  ·have k4 : ¬ X.kind = 4 := by
    simp only [hX] at h
    simpa using h
   rw [if_neg k4] at g3
   exact KW.goToR lay_ok Y1_ok 100 rfl (q + 1, a + X.args.length, b) [] rfl rfl ⟨by simp only [<-hX]; rfl, rfl, rfl, rfl, rfl, trivial⟩ (by simp [inK]; omega) ⟨⟨by simp only; omega, by simp only; omega, by simp only; omega, by simp only; omega, by simp only; omega, by simp only; omega, by simp only; omega⟩, by simp only; omega⟩ trivial
 ·have hq : q = ns.length := by simp at h; omega
  rw [hq, List.drop_length] at g2 g3
  simp only [brA, brV, Int.add_zero] at g2 g3
  refine KW.goOut lay_ok Y1_ok 100 rfl (by simp) ?_
  refine KW.goRet lay_ok Y1_ok 100 rfl rfl ?_ (by simp) trivial
  simp only [SV.ren, EV.ren, broadF, <-g2, <-g3]
def Y2 : Fns := (27, fF (fun f => sB (broadF f)) fun f => FormIn f /\ formE f = 0) ::
 Y1
theorem Y2_ok : FnsOk Tryz.prog Y2 := .cons (Y1_ok) Tryz.func27 rfl rfl (fF_ok fun f h => broad36_does f h.1 h.2)
def litL (l : List Int) : Bool := (decide (60 < l.length) && decide (l.length ≤ 1024)) || decide (1200 < l.length)
def light36A (f : FormP) (c : CovP) : Bool := decide (200 < f.nodes.length) || litL c.cuts || litL c.paths || !fwB c.tree 300
def light36B (f : FormP) : Bool := (f.nodes.all fun x => decide (x.args.length ≤ 40)) && (decide (formE f ≠ 0) || (decide (f.vars ≤ 8) && decide (f.nodes.length ≤ 20) && !broadF f))
def light36F (f : FormP) (c : CovP) : Bool := !light36A f c && light36B f
set_option maxHeartbeats 1600000 in
theorem light36_does (f : FormP) (c : CovP) (hin : FormIn f) : DoesF Tryz.prog 9 [.ag (formC f), .ag (covC c)] [] (sB (light36F f c)) [] := by
 refine DoesF.body _ Tryz.func9 rfl rfl rfl rfl ?_
 obtain ⟨vars, ns, top⟩ := f
 obtain ⟨cuts, paths, t⟩ := c
 refine KW.goIf lay_ok Y2_ok 200 rfl ?_ rfl trivial (fun h => ?_) fun h => ?_
 ·simp +contextual [unTr_cells]
  omega
 ·have hA : light36A ⟨vars, ns, top⟩ ⟨cuts, paths, t⟩ = true := by
   cases hfw : fwB t 300 <;> simp [hfw, unTr_cells, light36A, litL] at h ⊢ <;> omega
  refine KW.goRet lay_ok Y2_ok 100 rfl rfl ?_ (by simp) trivial
  simp [SV.ren, EV.ren, light36F, hA]
 have hA : light36A ⟨vars, ns, top⟩ ⟨cuts, paths, t⟩ = false := by
  cases hfw : fwB t 300 <;> simp [hfw, unTr_cells, light36A, litL] at h ⊢ <;> omega
 have h200 : ns.length ≤ 200 := by
  have := hA
  simp [light36A] at this
  omega
 have e : light36F ⟨vars, ns, top⟩ ⟨cuts, paths, t⟩ = light36B ⟨vars, ns, top⟩ := by rw [light36F, hA]; rfl
 rw [e]
 refine KW.goLpR lay_ok Y2_ok 100 rfl (I := fun q : Nat => ⟨Tryz.f9.ntmps, [(2, .e (.r 2)), (54, .e (.c (nodesC ns))), (55, sI ns.length), (56, sI q)], [(2, .box 24 [iV vars, .c (nodesC ns), iV top] none)]⟩)
  (R := fun q => q ≤ ns.length /\ (ns.drop q).all (fun x => decide (x.args.length ≤ 40)) = ns.all fun x => decide (x.args.length ≤ 40)) (m := fun q => ns.length - q) 0 [(2, 2)] rfl rfl ⟨rfl, rfl, rfl, rfl, trivial⟩ (by simp) ⟨by simp, by simp⟩ ⟨rfl, trivial⟩ ?_
 rintro q ⟨g1, g2⟩
 refine KW.goIf lay_ok Y2_ok 100 rfl (by simp) rfl trivial (fun h => ?_) fun h => ?_
 ·have hq : q < ns.length := by simpa using h
  have hX : ns.getD (Int.toNat (q : Int)) node0 = ns[q] := by simp [List.getD_eq_getElem?_getD, hq]
  rw [List.drop_eq_getElem_cons hq, List.all_cons] at g2
  generalize ns[q] = X at hX g2
  refine KW.goIf lay_ok Y2_ok 100 rfl (by simp; omega) rfl trivial (fun h => ?_) fun h => ?_
  ·have h2 : ¬ X.args.length ≤ 40 := by
    have e : decide ((40 : Int) < ((ns.getD (Int.toNat (q : Int)) node0).args.length : Int)) = true := h
    rw [hX, decide_eq_true_eq] at e; omega
   rw [decide_eq_false h2, Bool.false_and] at g2
   refine KW.goOutR lay_ok Y2_ok 100 rfl (by simp) ?_
   refine KW.goRet lay_ok Y2_ok 100 rfl rfl ?_ (by simp) trivial
   simp only [SV.ren, EV.ren, light36B, <-g2, Bool.false_and]
  ·have h2 : X.args.length ≤ 40 := by
    have e : decide ((40 : Int) < ((ns.getD (Int.toNat (q : Int)) node0).args.length : Int)) = false := h
    rw [hX, decide_eq_false_iff_not] at e; omega
   rw [decide_eq_true h2, Bool.true_and] at g2
   exact KW.goToR lay_ok Y2_ok 100 rfl (q + 1) [(2, 2)] rfl rfl ⟨rfl, rfl, rfl, rfl, trivial⟩ (by simp [inK]; omega) ⟨⟨by omega, g2⟩, by omega⟩ ⟨rfl, trivial⟩
 ·have hq : q = ns.length := by simp at h; omega
  rw [hq, List.drop_length] at g2
  refine KW.goOut lay_ok Y2_ok 100 rfl (by simp) ?_
  refine KW.goRet lay_ok Y2_ok 100 rfl rfl ?_ (by simp only [unN_nodesC, isN_nodesC, true_and, and_true, hin]; simp +contextual) trivial
  simp only [SV.ren, EV.ren, light36B, <-g2, unN_nodesC]
  simp only [List.all_nil, Bool.true_and]
  congr 5
  ·rw [Bool.eq_iff_iff]; simp
  ·rw [show decide ((ns.length : Int) ≤ 20) = decide (ns.length ≤ 20) by rw [Bool.eq_iff_iff]; simp; omega]
def ex36N : List NodeP := [⟨2, 0, [1, 2]⟩, ⟨3, 0, [0, 3]⟩]
def ex36 : FormP := ⟨3, ex36N, 4⟩
theorem example36_does : DoesF Tryz.prog 28 [] [] (.e (.ag (formC ex36))) [] := by
 refine DoesF.bodyC lay_ok _ Tryz.func28 rfl rfl rfl rfl ?_
 refine KW.go lay_ok Y2_ok 100 rfl (by simp) ?_
 refine KW.frz1 1 rfl rfl rfl ?_
 refine KW.go lay_ok Y2_ok 100 rfl (by simp) ?_
 refine KW.frz1 3 rfl rfl rfl ?_
 refine KW.go lay_ok Y2_ok 100 rfl (by simp) ?_
 refine KW.frz1 5 rfl rfl rfl ?_
 refine KW.conv 5 (nodesC ex36N) rfl ?_ ?_
 ·refine ⟨rfl, .inr ⟨rfl, fun e q he hq => ?_⟩⟩
  rcases (by omega : e = 0 ∨ e = 1) with rfl | rfl <;> rcases (by omega : q = 0 ∨ q = 1 ∨ q = 2) with rfl | rfl | rfl <;> exact CVEq.refl _
 exact KW.goRetC lay_ok Y2_ok 100 rfl rfl rfl (by simp) trivial
theorem ex36_in : FormIn ex36 := by
 have hk : ∀ n : Int, 0 ≤ n /\ n ≤ 9 -> inK .i64 n := fun n h => by simp only [inK]; omega
 refine ⟨hk 3 (by decide), hk 4 (by decide), fun x hx => ?_⟩
 simp only [ex36, ex36N, List.mem_cons, List.not_mem_nil, or_false] at hx
 rcases hx with rfl | rfl
 ·exact ⟨hk 2 (by decide), hk 0 (by decide), fun a ha => hk a (by simp at ha; omega)⟩
 ·exact ⟨hk 3 (by decide), hk 0 (by decide), fun a ha => hk a (by simp at ha; omega)⟩
end Go.Proofs.YtocnofkagckhkaaGreatDoor
end
section
namespace Go.Proofs.YtocnofkagckhkaaGreatDoor
open Go.Sy Go.Pu Go.Proofs.YtocnofkagckhkaaGreatDoor.Tr
variable [Drw]
theorem e36a : plusP [] [2] = ([2], 0) := by rw [plus_ref]; decide +kernel
theorem e36b : plusP [2] [4] = ([2, 4], 0) := by rw [plus_ref]; decide +kernel
theorem e36c : prodP [0] [1] = ([1], 0) := by rw [prod_ref]; decide +kernel
theorem e36d : prodP [1] [2, 4] = ([3, 5], 0) := by rw [prod_ref]; decide +kernel
theorem ex36_run : runP ex36N (fam0 3) = ([[1], [2], [4], [2, 4], [3, 5]], 0) := by
 rw [ex_fam]
 simp [runP, ex36N, nodePS, foldP, e36a, e36b, e36c, e36d]
theorem ex36_pathE : pathE ex36 = 0 := by decide +kernel
theorem ex36_trim : trimF ex36 = ex36 := rfl
theorem ex36_paths : pathsE ex36 = 0 /\ pathsL ex36 = [3, 5] /\ pathsV ex36 = ([3, 5], 0) := by
 have e : pathsE ex36 = 0 := by
  unfold pathsE; rw [ex36_trim]
  show (runP ex36N (fam0 3)).2 = 0
  rw [ex36_run]
 have e2 : pathsL ex36 = [3, 5] := by
  rw [pathsL, if_pos e, ex36_trim]
  show (runP ex36N (fam0 3)).1.getD 4 [] = _
  rw [ex36_run]; rfl
 exact ⟨e, e2, by rw [pathsV, if_pos ex36_pathE, e, e2]⟩
theorem m35 : minS [3, 5] = [3, 5] := minS_of (by unfold Val; decide +kernel) (by unfold Val; decide +kernel) (by unfold Asc; decide +kernel) (by decide +kernel) (by decide +kernel) (by decide +kernel)
theorem m1536 : minS [1, 5, 3, 6] = [1, 6] := minS_of (by unfold Val; decide +kernel) (by unfold Val; decide +kernel) (by unfold Asc; decide +kernel) (by decide +kernel) (by decide +kernel) (by decide +kernel)
theorem s35 : singS 3 = [1, 2] /\ singS 5 = [1, 4] /\ listE [3, 5] = 0 := by decide +kernel
theorem u5 : unionsC [1, 2] [1, 4] = [1, 5, 3, 6] := by
 have e14 : minS [1, 4] = [1, 4] := minS_of (by unfold Val; decide +kernel) (by unfold Val; decide +kernel) (by unfold Asc; decide +kernel) (by decide +kernel) (by decide +kernel) (by decide +kernel)
 unfold unionsC
 rw [ex2, e14]
 decide +kernel
theorem all35 : allC [0] [3, 5] = ([1, 6], 0) := by
 have s1 : stepA [0] 3 = 0 /\ resA [0] 3 = [1, 2] := by
  unfold stepA resA
  rw [s35.1, u3, ex2]
  decide +kernel
 have s2 : stepA [1, 2] 5 = 0 /\ resA [1, 2] 5 = [1, 6] := by
  unfold stepA resA
  rw [s35.2.1, u5, m1536]
  decide +kernel
 simp only [allC, s1.1, s1.2, s2.1, s2.2, if_true]
theorem hit35 : hitE [3, 5] = 0 /\ hitL [3, 5] = [1, 6] := by
 unfold hitE hitL
 rw [m35, all35]
 simp [s35.2.2]
def ex36T : Tr := .two 0 (.two 1 (.lf (-1)) (.two 2 (.lf (-2)) (.lf 1))) (.lf 0)
theorem ex36_grow : (growP [1, 6] [3, 5] 25 0 0 0).2.2 = 0 := by decide +kernel
theorem ex36_make : makeE ex36 = 0 /\ (makeC ex36).cuts = [1, 6] /\ (makeC ex36).paths = [3, 5] /\ (makeC ex36).tree = (growP [1, 6] [3, 5] 25 0 0 0).1 := by
 obtain ⟨e1, e2, e3⟩ := ex36_paths
 have h : makeE ex36 = 0 := by
  rw [makeE, e3, e2, hit35.1, makeG, e2, hit35.2]
  exact ex36_grow
 refine ⟨h, ?_, ?_, ?_⟩
 ·rw [makeC, if_pos h, e2]; exact hit35.2
 ·rw [makeC, if_pos h]; exact e2
 ·rw [makeC, if_pos h, makeG, e2, hit35.2]
theorem ex36_tree : sameT (growP [1, 6] [3, 5] 25 0 0 0).1 ex36T = true /\ splE (growP [1, 6] [3, 5] 25 0 0 0).1 3 = 0 := by decide +kernel
theorem ex36_less : covE ex36 ⟨[1], [3, 5], (growP [1, 6] [3, 5] 25 0 0 0).1⟩ = 0 /\ faultV ex36 ⟨[1], [3, 5], (growP [1, 6] [3, 5] 25 0 0 0).1⟩ = (4, 2) := by decide +kernel
end Go.Proofs.YtocnofkagckhkaaGreatDoor
end
section
namespace Go.Proofs.YtocnofkagckhkaaGreatDoor
open Go.Sy Go.Pu Go.Proofs.YtocnofkagckhkaaGreatDoor.Tr
variable [Drw]
def fFC (g : FormP -> CovP -> SV) (p : FormP -> CovP -> Prop) : List EV -> Option (SV × Prop)
 | [.ag [.lit (.int .i64 a), x, .lit (.int .i64 b)], .ag [c, d, .lit (.int .i64 v), k, .lit (.int .i64 r)]] => some (g ⟨a, unN x, b⟩ ⟨unI c, unI d, unTr v k r⟩, isN x /\ (isI c /\ isI d /\ isKs k) /\ p ⟨a, unN x, b⟩ ⟨unI c, unI d, unTr v k r⟩)
 | _ => none
theorem cov_eq {c d k : CV} {v r : Int} (h1 : isI c) (h2 : isI d) (h3 : isKs k) : EvEq (.ag [c, d, .lit (.int .i64 v), k, .lit (.int .i64 r)]) (.ag (covC ⟨unI c, unI d, unTr v k r⟩)) := by
 have ht := tr_eq (a := v) (b := r) h3
 refine ⟨rfl, fun q y z hy hz => ?_⟩
 match q, hy, hz with
 | 0, hy, hz => simp [covC] at hy hz; subst hy; subst hz; exact h1
 | 1, hy, hz => simp [covC] at hy hz; subst hy; subst hz; exact h2
 | q + 2, hy, hz => exact ht.2 q y z (by simpa using hy) (by simpa [covC] using hz)
theorem fFC_ok {P : Program} {f : FuncId} {g : FormP -> CovP -> SV} {p : FormP -> CovP -> Prop} (h : ∀ x c, p x c -> DoesF P f [.ag (formC x), .ag (covC c)] [] (g x c) []) : ∀ ys y φ, fFC g p ys = some (y, φ) -> φ -> DoesF P f ys [] y [] := by
 intro ys y φ he hφ
 unfold fFC at he
 split at he
 ·simp only [Option.some.injEq, Prod.mk.injEq] at he
  obtain ⟨rfl, rfl⟩ := he
  obtain ⟨h1, ⟨h2, h3, h4⟩, h5⟩ := hφ
  refine DoesF.conv ?_ (h _ _ h5)
  exact ⟨form_eq h1, cov_eq h2 h3 h4, trivial⟩
 ·cases he
def covSm (c : CovP) : Prop := c.tree.In /\ c.cuts.length ≤ 1099511627776 /\ c.paths.length ≤ 1099511627776
def Y3 : Fns := (28, f0 (.e (.ag (formC ex36))) True) ::
 (16, fF (fun f => .tup [.ag (covC (makeC f)), eV (makeE f)]) FormIn) ::
 (22, fF (fun f => .tup [.ag (covC (makeC f)), iV (makeE f)]) FormIn) ::
 (14, fFC (fun f c => .e (eV (covE f c))) fun f c => FormIn f /\ covSm c) ::
 (12, fFC (fun f c => .tup [bV (decide (covE f c = 0) && decide ((faultV f c).1 = 0)), faV (if covE f c = 0 then faultV f c else (0, 0)), eV (covE f c)]) fun f c => FormIn f /\ covSm c) ::
 (11, fFC (fun f c => sI (covE f c)) fun f c => FormIn f) ::
 (15, fFC (fun f c => .tup [bV (decide (covE f c = 0) && decide ((faultV f c).1 = 0)), faV (if covE f c = 0 then faultV f c else (0, 0)), iV (covE f c)]) fun f c => FormIn f /\ c.tree.In) ::
 (9, fFC (fun f c => sB (light36F f c)) fun f c => FormIn f) ::
 Y2
theorem Y3_ok : FnsOk Tryz.prog Y3 := .cons (.cons (.cons (.cons (.cons (.cons (.cons (.cons (Y2_ok) Tryz.func9 rfl rfl (fFC_ok fun f c h => light36_does f c h)) Tryz.func15 rfl rfl (fFC_ok fun f c h => rverify36_does f c h.1 h.2)) Tryz.func11 rfl rfl (fFC_ok fun f c h => rcheck36_does f c h)) Tryz.func12 rfl rfl (fFC_ok fun f c h => cverify_does f c h.1 h.2.1 h.2.2.1 h.2.2.2)) Tryz.func14 rfl rfl (fFC_ok fun f c h => ccheck_does f c h.1 h.2.1 h.2.2.1 h.2.2.2)) Tryz.func22 rfl rfl (fF_ok fun f h => rmake36_does f h)) Tryz.func16 rfl rfl (fF_ok fun f h => cmake_does f h)) Tryz.func28 rfl rfl (f0_ok fun _ => example36_does)
end Go.Proofs.YtocnofkagckhkaaGreatDoor
end
section
namespace Go.Pu
open Go.Sy
variable [Drw]
theorem itoa_size {n : Int} (h0 : -9223372036854775808 ≤ n) (h1 : n ≤ 9223372036854775807) : (Lib.itoa n).length ≤ 20 := by
 have hl : (Lib.decDigits n.natAbs).length = Lib.nDigits n.natAbs := Lib.decDigits_length _
 have := nDig_le 18 n.natAbs (by omega)
 by_cases hneg : n < 0
 ·rw [show Lib.itoa n = 45 :: Lib.decDigits n.natAbs by rw [Lib.itoa, if_pos hneg], List.length_cons]; omega
 ·rw [show Lib.itoa n = Lib.decDigits n.natAbs by rw [Lib.itoa, if_neg hneg]; congr 1; omega]; omega
theorem showT_size (t : Tr) : gT t -> t.In -> ((showT t).length : Int) ≤ 30 * cntN t := by
 induction t using Tr.ind with
 | h t ih =>
   rw [gT_eq, Tr.in_iff, showT_eq, cntN_eq]
   rintro hg ⟨i1, i2, i3⟩
   simp only [inK] at i1 i2
   split at hg
   ·rename_i h2
    rw [if_pos h2, if_pos h2]
    obtain ⟨_, _, _, g0, g1⟩ := hg
    have h0 := ih 0 (by omega) g0 (i3 0 (by omega))
    have h1 := ih 1 (by omega) g1 (i3 1 (by omega))
    have hv := itoa_size (n := t.v) (by omega) (by omega)
    simp only [List.length_cons, List.length_append, List.length_nil]
    omega
   ·rename_i h2
    rw [if_neg h2, if_neg h2]
    have := itoa_size (n := t.r) (by omega) (by omega)
    omega
end Go.Pu
end
section
namespace Go.Sy
open Go.Sort Go.Lib Go.Shelf Go.Proofs
abbrev strV (s : ByteArray) : EV := .c (.lit (.string s))
theorem below_ext {o : Nat -> Tag} {w w' : World} (h : Go.RowKit.Below w.heap.size w w') : @Ext drwNo o w o w' :=
 letI : Drw := drwNo
 ⟨h.size, h.os, h.tape, h.output, Nat.le_refl _, fun b hb hl => ⟨hb, h.block b hl⟩, fun b hb hl => ⟨hb, h.block b hl⟩⟩
end Go.Sy
attribute [local instance] Go.Sy.drwNo
namespace Go.Sy
open Go.Sort Go.Lib Go.Shelf Go.Proofs
end Go.Sy
namespace Go.Pu
open Go.Sy
def strL (l : List UInt8) : ByteArray := ⟨l.toArray⟩
@[simp] theorem strL_size (l : List UInt8) : (strL l).size = l.length := by simp [strL, ByteArray.size]
@[simp] theorem strL_data (l : List UInt8) : (strL l).data.toList = l := by simp [strL]
@[simp] theorem strL_getD (l : List UInt8) (i : Nat) : (strL l).data.getD i 0 = l.getD i 0 := by simp [strL, List.getD_eq_getElem?_getD, Array.getD_eq_getD_getElem?]
theorem strL_append (a b : List UInt8) : strL a ++ strL b = strL (a ++ b) := by
 apply ByteArray.ext
 apply Array.ext'
 simp [strL]
end Go.Pu
namespace Go.Sy
end Go.Sy
end
section
namespace Go.Proofs.YtocnofkagckhkaaGreatDoor
open Go.Shelf
def layItoaT_ren : Go.Shelf.Ren := ⟨fun | 171 => 103 | 243 => 130 | 246 => 149 | 283 => 162 | 284 => 163 | 285 => 164 | 286 => 165 | 129 => 145 | 317 => 168 | 318 => 169 | 319 => 170 | 320 => 171 | 337 => 172 | 338 => 173 | n => n, fun | 3 => 3 | 9 => 9 | 2 => 2 | 4 => 4 | 171 => 178 | 0 => 0 | 53 => 166 | 37 => 107 | 5 => 5 | 173 => 180 | 212 => 186 | 51 => 164 | 20 => 20 | 213 => 187 | 46 => 154 | 232 => 188 | 233 => 189 | n => n, fun | 17 => 0 | 18 => 1 | 19 => 2 | n => n⟩
theorem layItoaT : Go.Proofs.LaysM.n171 Tryz.prog layItoaT_ren := {
 mixed := by kernel_rfl
 f129 := Tryz.func145.trans (congrArg some (by kernel_rfl))
 f171 := Tryz.func103.trans (congrArg some (by kernel_rfl))
 f243 := Tryz.func130.trans (congrArg some (by kernel_rfl))
 f246 := Tryz.func149.trans (congrArg some (by kernel_rfl))
 f283 := Tryz.func162.trans (congrArg some (by kernel_rfl))
 f284 := Tryz.func163.trans (congrArg some (by kernel_rfl))
 f285 := Tryz.func164.trans (congrArg some (by kernel_rfl))
 f286 := Tryz.func165.trans (congrArg some (by kernel_rfl))
 f317 := Tryz.func168.trans (congrArg some (by kernel_rfl))
 f318 := Tryz.func169.trans (congrArg some (by kernel_rfl))
 f319 := Tryz.func170.trans (congrArg some (by kernel_rfl))
 f320 := Tryz.func171.trans (congrArg some (by kernel_rfl))
 f337 := Tryz.func172.trans (congrArg some (by kernel_rfl))
 f338 := Tryz.func173.trans (congrArg some (by kernel_rfl))
 t0 := Tryz.underlying0
 a0 := Tryz.isAgg0
 z0 := Tryz.sizeOf0
 v0 := Tryz.zeroValue0
 t2 := Tryz.underlying2
 a2 := Tryz.isAgg2
 z2 := Tryz.sizeOf2
 v2 := Tryz.zeroValue2
 t3 := Tryz.underlying3
 a3 := Tryz.isAgg3
 z3 := Tryz.sizeOf3
 v3 := Tryz.zeroValue3
 t4 := Tryz.underlying4
 a4 := Tryz.isAgg4
 z4 := Tryz.sizeOf4
 v4 := Tryz.zeroValue4
 t5 := Tryz.underlying5
 a5 := Tryz.isAgg5
 z5 := Tryz.sizeOf5
 v5 := Tryz.zeroValue5
 t9 := Tryz.underlying9
 a9 := Tryz.isAgg9
 z9 := Tryz.sizeOf9
 v9 := Tryz.zeroValue9
 t20 := Tryz.underlying20
 a20 := Tryz.isAgg20
 z20 := Tryz.sizeOf20
 v20 := Tryz.zeroValue20
 t37 := Tryz.underlying107
 a37 := Tryz.isAgg107
 z37 := Tryz.sizeOf107
 v37 := Tryz.zeroValue107
 t46 := Tryz.underlying154
 a46 := Tryz.isAgg154
 z46 := Tryz.sizeOf154
 v46 := Tryz.zeroValue154
 t51 := Tryz.underlying164
 a51 := Tryz.isAgg164
 z51 := Tryz.sizeOf164
 v51 := Tryz.zeroValue164
 t53 := Tryz.underlying166
 a53 := Tryz.isAgg166
 z53 := Tryz.sizeOf166
 v53 := Tryz.zeroValue166
 t171 := Tryz.underlying178
 a171 := Tryz.isAgg178
 z171 := Tryz.sizeOf178
 v171 := Tryz.zeroValue178
 t173 := Tryz.underlying180
 a173 := Tryz.isAgg180
 z173 := Tryz.sizeOf180
 v173 := Tryz.zeroValue180
 t212 := Tryz.underlying186
 a212 := Tryz.isAgg186
 z212 := Tryz.sizeOf186
 v212 := Tryz.zeroValue186
 t213 := Tryz.underlying187
 a213 := Tryz.isAgg187
 z213 := Tryz.sizeOf187
 t232 := Tryz.underlying188
 a232 := Tryz.isAgg188
 z232 := Tryz.sizeOf188
 v232 := Tryz.zeroValue188
 t233 := Tryz.underlying189
 a233 := Tryz.isAgg189
 z233 := Tryz.sizeOf189
 v233 := Tryz.zeroValue189
 g17 := by kernel_rfl
 g18 := by kernel_rfl
 g19 := by kernel_rfl
 i0 := by kernel_rfl
 i2 := by kernel_rfl
 i3 := by kernel_rfl
 i4 := by kernel_rfl
 i5 := by kernel_rfl
 i9 := by kernel_rfl
 i20 := by kernel_rfl
 i37 := by kernel_rfl
 i46 := by kernel_rfl
 i51 := by kernel_rfl
 i53 := by kernel_rfl
 i171 := by kernel_rfl
 i173 := by kernel_rfl
 i212 := by kernel_rfl
 i232 := by kernel_rfl
 i233 := by kernel_rfl
 m17 := by kernel_rfl
 m18 := by kernel_rfl
 m19 := by kernel_rfl }
def layString_ren : Go.Shelf.Ren := ⟨fun | 169 => 61 | n => n, fun | 70 => 106 | 9 => 9 | 0 => 0 | 72 => 109 | 37 => 107 | 127 => 143 | 3 => 3 | 5 => 5 | n => n, fun | n => n⟩
theorem layString : Go.Proofs.Lays.n169 Tryz.prog layString_ren := {
 mixed := by kernel_rfl
 f169 := Tryz.func61.trans (congrArg some (by kernel_rfl))
 t0 := Tryz.underlying0
 a0 := Tryz.isAgg0
 z0 := Tryz.sizeOf0
 v0 := Tryz.zeroValue0
 t3 := Tryz.underlying3
 a3 := Tryz.isAgg3
 z3 := Tryz.sizeOf3
 v3 := Tryz.zeroValue3
 t9 := Tryz.underlying9
 a9 := Tryz.isAgg9
 z9 := Tryz.sizeOf9
 v9 := Tryz.zeroValue9
 t37 := Tryz.underlying107
 a37 := Tryz.isAgg107
 z37 := Tryz.sizeOf107
 v37 := Tryz.zeroValue107
 t70 := Tryz.underlying106
 a70 := Tryz.isAgg106
 z70 := Tryz.sizeOf106
 v70 := Tryz.zeroValue106
 t72 := Tryz.underlying109
 a72 := Tryz.isAgg109
 z72 := Tryz.sizeOf109
 v72 := Tryz.zeroValue109
 t127 := Tryz.underlying143
 a127 := Tryz.isAgg143
 z127 := Tryz.sizeOf143
 v127 := Tryz.zeroValue143 }
theorem extraString : Builder.Extra Tryz.prog layString_ren := {
 sizeBuilder := by kernel_rfl
 liesBuilder := by kernel_rfl
 t5 := Tryz.underlying5
 a5 := Tryz.isAgg5
 z5 := Tryz.sizeOf5
 v5 := Tryz.zeroValue5
 infoByte := by kernel_rfl
 cellsByte := by kernel_rfl
 sizeByte := by kernel_rfl
 neB5 := by decide }
end Go.Proofs.YtocnofkagckhkaaGreatDoor
end
section
namespace Go.Sy
open Go.Lib Go.Shelf
variable [Drw]
def bytesC (bs : List UInt8) : CV := .sl bs.length 1 fun e _ => .lit (.int .u8 ((bs.getD e 0).toNat : Int))
def byteV (b : UInt8) : Value := .int .u8 (b.toNat : Int)
section
variable {P : Program} {lay : Lay} {o o' : Nat -> Tag} {h h' : Nat -> Value} {A A' : St} {tm : Array Value} {w w' : World} {Q : Exit -> St -> Prop} {k : List K} {e : Exit}
theorem strCells_eq (s : ByteArray) : strCells s = s.data.toList.map byteV := rfl
theorem bytes_vs {i E : Nat} {bs : List UInt8} (hs : Sat o h A tm w) (hi : lk A.rs i = some (.own E (bytesC bs))) : w.ownsRow 0 E 1 (h i) bs.length (bs.map byteV) /\ ∀ b, (h i).ownBlock = some b -> o b = .hd i := by
 obtain ⟨vs, hown, htag, hvs⟩ := hs.res i _ hi
 have e : vs = bs.map byteV := by
  refine List.ext_getElem? fun j => ?_
  by_cases hj : j < bs.length
  ·obtain ⟨u, hu, hr⟩ := hvs j 0 hj (by omega)
   have h1 : u = byteV (bs.getD j 0) := hr.1
   rw [Nat.mul_one, Nat.add_zero] at hu
   rw [hu, h1, List.getElem?_map, List.getElem?_eq_getElem hj]
   simp [List.getD_eq_getElem?_getD, hj]
  ·have hl := hown.1
   rw [List.getElem?_eq_none (by omega), List.getElem?_eq_none (by simp; omega)]
 subst e
 exact ⟨hown, htag⟩
theorem bytes_rep {vs : List Value} {bs : List UInt8} (hv : vs = bs.map byteV) : ∀ e q, e < bs.length -> q < 1 -> ∃ u, vs[e * 1 + q]? = some u /\ RepV o w (.lit (byteV (bs.getD e 0))) u := by
 intro e q he hq
 obtain rfl : q = 0 := by omega
 refine ⟨byteV (bs.getD e 0), ?_, rfl, rfl⟩
 rw [hv, Nat.mul_one, Nat.add_zero, List.getElem?_map, List.getElem?_eq_getElem he]
 simp [List.getD_eq_getElem?_getD, he]
theorem appS_step (hl : LayOk P lay) {op : Oper} {c : Call} {d i E t u sz : Nat} {ag : Bool} {zz zu : List Value} {sl x : Operand} {p q : Prop} {bs : List UInt8} {s : ByteArray}
  (ho : op.op = .call c) (hd : op.dst = some d) (hlt : Nat.blt d A.n = true) (hf : freshB A d = true) (hc : c.callee = .builtin .append) (ha : c.args = #[sl, x]) (hta : c.argTypes = #[t, u])
  (hT : lk lay t = some ⟨sz, ag, .sl E 1 1, zz⟩) (hE : lk lay E = some ⟨1, false, .int .u8, [.int .u8 0]⟩) (hU : lk lay u = some ⟨1, false, .str, zu⟩)
  (hr : rd A sl = some (.r i, p)) (hp : p) (hi : lk A.rs i = some (.own E (bytesC bs))) (hx : rd A x = some (.c (.lit (.string s)), q)) (hq : q) (hlen : bs.length + s.size ≤ 140737488355328) :
  OpStep P op A ⟨A.n, (d, .e (.r d)) :: A.sl, (d, .own E (bytesC (bs ++ s.data.toList))) :: (i, .gone) :: A.rs⟩ := by
 intro o h tm w hs
 have hlt : d < A.n := by simpa [Nat.blt, Nat.succ_le_iff] using hlt
 have hsv : evl tm sl = h i := rd_ok hs hr hp
 have hxv : evl tm x = .string s := (rd_ok hs hx hq).1
 obtain ⟨hu, hes, i0, hinfo, hisz, hiby⟩ := sl_elem hl hT
 obtain ⟨iE, z, hiE, hszE, hzE, hzcE, _, hz1⟩ := (hl _ _ hE).info
 rw [hinfo] at hiE
 cases hiE
 have hz0 : z = .int .u8 0 := by
  have e1 := hz1 rfl
  simp only [e1] at hzcE
  simpa using hzcE
 subst hz0
 have hus : P.underlying u = some .string := by
  obtain ⟨du, g1, g2⟩ := (hl _ _ hU).td
  rw [g1]
  cases du <;> simp [tdB] at g2 ⊢
 have hrun : ∀ {v w'}, (Builtin.append_ #[t, u] op.type #[h i, .string s]).run P w = .ok v w' -> (∃ o' h', Sat o' h' ⟨A.n, (d, .e (.r d)) :: A.sl, (d, .own E (bytesC (bs ++ s.data.toList))) :: (i, .gone) :: A.rs⟩ (tm.setIfInBounds d v) w' /\ Ext o w o' w') ->
   ∃ x v w' o' h', (execOp (evl tm) op).run P w = .ok x w' /\ (x = .value v ∨ (x = .skip /\ v = undef)) /\ Sat o' h' ⟨A.n, (d, .e (.r d)) :: A.sl, (d, .own E (bytesC (bs ++ s.data.toList))) :: (i, .gone) :: A.rs⟩ ((⟨tm, []⟩ : Act).put op.dst v).tmps w' /\ Ext o w o' w' := by
  rintro v w' hr ⟨o', h', h1, h2⟩
  refine ⟨_, v, w', o', h', ?_, .inl rfl, by simpa only [Act.put, hd] using h1, h2⟩
  simp only [execOp, ho, resolve, hc, invoke, builtin, ha, hta]
  simp [hsv, hxv, hr]
 obtain ⟨hown, htag⟩ := bytes_vs hs hi
 have hlenS : s.data.toList.length = s.size := by rw [Array.length_toList]; rfl
 have hnm : (bs ++ s.data.toList).length = bs.length + s.size := by rw [List.length_append, hlenS]
 have hbC : bytesC (bs ++ s.data.toList) = .sl (bs.length + s.size) 1 fun e q => .lit (byteV ((bs ++ s.data.toList).getD e 0)) := by rw [<-hnm]; rfl
 have hvs : (bs ++ s.data.toList).map byteV = bs.map byteV ++ strCells s := by rw [List.map_append]; rfl
 have grow : ∀ old : Nat, (∃ o' h', Sat o' h' ⟨A.n, (d, .e (.r d)) :: A.sl, (d, .own E (bytesC (bs ++ s.data.toList))) :: (i, .gone) :: A.rs⟩ (tm.setIfInBounds d (.slice (some ⟨w.heap.size, 0, none⟩) (bs.length + s.size) (grownCap w (bs.length + s.size) old E)))
   (w.drew.alloc (.cells ((bs.map byteV).toArray ++ (strCells s).toArray ++ Builtin.zeroCells (Value.int .u8 0).cells (grownCap w (bs.length + s.size) old E - (bs.length + s.size))) E)) /\ Ext o w o' (w.drew.alloc (.cells ((bs.map byteV).toArray ++ (strCells s).toArray ++ Builtin.zeroCells (Value.int .u8 0).cells (grownCap w (bs.length + s.size) old E - (bs.length + s.size))) E))) := by
  intro old
  have hge := grownCap_ge w (bs.length + s.size) old E
  have hcm := grownCap_le_maxLen w (bs.length + s.size) old E (by simp only [maxLen]; omega)
  generalize grownCap w (bs.length + s.size) old E = G at *
  have hl1 : (bs.map byteV ++ strCells s).length = bs.length + s.size := by rw [List.length_append, List.length_map, strCells_length]
  obtain ⟨o', h', hs', hx'⟩ := Sat.newRow (hs.drew) hlt hf (E := E) (k := 1) (n := bs.length + s.size) (cap := G) (cur := (bs.map byteV).toArray ++ (strCells s).toArray ++ Builtin.zeroCells (Value.int .u8 0).cells (G - (bs.length + s.size)))
   (f := fun e q => .lit (byteV ((bs ++ s.data.toList).getD e 0))) hge hcm (by
    have hz1 : (Value.int IntKind.u8 0).cells.size = 1 := rfl
    simp only [Array.size_append, List.size_toArray, size_zeroCells, hz1, strCells_length, List.length_map]
    omega) (fun e q he hq => by
    obtain ⟨u, hu, hx⟩ := bytes_rep (o := o) (w := w) hvs.symm e q (by rw [hnm]; exact he) hq
    refine ⟨u, ?_, hx.drew⟩
    rw [<-Array.getElem?_toList]
    simp only [Array.toList_append]
    rw [List.getElem?_append_left (by rw [List.length_append, List.length_map, strCells_length]; omega)]
    exact hu)
  rw [hbC]
  exact ⟨o', h', hs'.gone i rfl, (Ext.drew o w).trans hx'⟩
 rcases hown.2 with ⟨h0, hn0⟩ | ⟨g, cap, cur, h0, _, hg, hnc, hcm, hcs, htake⟩
 ·have hb0 : bs = [] := List.length_eq_zero_iff.1 hn0
  by_cases hm : s.size = 0
  ·have e2 : s.data.toList = [] := List.length_eq_zero_iff.1 (by omega)
   refine hrun (v := .slice none 0 0) (w' := w) ?_ ?_
   ·rw [h0]
    have hf' := run_firstCells_string (P := P) w i0.size s
    rw [hm, strCells_eq, e2] at hf'
    have hk0 : (Builtin.firstCells i0.size 0 (.string s)).run P w = .ok #[] w := hf'
    simp [Builtin.append_, run_underlying hu, run_underlying hus, sizeOf, typeInfo, hinfo, hisz, Builtin.lenOf, hm, Builtin.firstCells]
   ·rw [<-h0, e2, List.append_nil]
    exact Sat.rename hs hlt hf hi fun e q _ _ => rfl
  ·have hr := run_append_nil_string (P := P) w t u op.type E i0 (.int .u8 0) hu hus hinfo hzE s (by omega) (by omega) (by rw [hiby]; omega)
   have hgr := grow 0
   rw [hb0] at hgr
   rw [hb0]
   simp only [List.map_nil, List.length_nil, Nat.zero_add, Array.empty_append] at hgr ⊢
   have e1 : (s.data.map fun b => Value.int .u8 b.toNat) = (strCells s).toArray := by
    apply Array.ext'
    simp [strCells]
   rw [e1] at hr
   rw [hb0] at hrun
   refine hrun (by rw [h0]; exact hr) hgr
 ·by_cases hroom : bs.length + s.size ≤ cap
  ·have hcs' : cur.size = cap := by simpa using hcs
   have hr := run_append_room_string (P := P) w t u op.type E i0 hu hus hinfo hisz g bs.length cap cur hg s hroom (by omega)
   refine hrun (by rw [h0]; exact hr) ?_
   rw [hbC]
   have ht' : cur.toList.take bs.length = bs.map byteV := by simpa using htake
   refine Sat.inPlace hs hlt hf hg (htag g (by rw [h0]; rfl)) hroom hcm ?_ fun e q he hq => ?_
   ·simp only [List.size_toArray, List.length_append, List.length_take, List.length_drop, Array.length_toList, strCells_length]
    omega
   ·obtain ⟨u, hu, hx⟩ := bytes_rep (o := o) (w := w) hvs.symm e q (by rw [hnm]; exact he) hq
    refine ⟨u, ?_, hx⟩
    rw [List.getElem?_toArray, ht', List.getElem?_append_left (by rw [List.length_append, List.length_map, strCells_length]; omega)]
    exact hu
  ·have holds : ∀ j u, (bs.map byteV)[j]? = some u -> w.cell? ((⟨g, 0, none⟩ : Addr).add j) = some u := hown.cells (g := g) (by rw [h0]; rfl)
   have hr := run_append_grow_string (P := P) w t u op.type E i0 (.int .u8 0) hu hus hinfo hzE ⟨g, 0, none⟩ bs.length cap (bs.map byteV) (by rw [hisz]; simp) holds s (by omega) (by omega) (by rw [hiby]; exact growslice_fits (by omega) (by omega))
   exact hrun (by rw [h0]; exact hr) (grow cap)
theorem KW.appS (hl : LayOk P lay) {all : Array Oper} {op : Oper} {rest : List Oper} {c : Call} {d i E t u sz : Nat} {ag : Bool} {zz zu : List Value} {sl x : Operand} {p q : Prop} {bs : List UInt8} {s : ByteArray}
  (hg : op.guard = none) (ho : op.op = .call c) (hd : op.dst = some d) (hlt : Nat.blt d A.n = true) (hf : freshB A d = true) (hc : c.callee = .builtin .append) (ha : c.args = #[sl, x]) (hta : c.argTypes = #[t, u])
  (hT : lk lay t = some ⟨sz, ag, .sl E 1 1, zz⟩) (hE : lk lay E = some ⟨1, false, .int .u8, [.int .u8 0]⟩) (hU : lk lay u = some ⟨1, false, .str, zu⟩)
  (hr : rd A sl = some (.r i, p)) (hp : p) (hi : lk A.rs i = some (.own E (bytesC bs))) (hx : rd A x = some (.c (.lit (.string s)), q)) (hq : q) (hlen : bs.length + s.size ≤ 140737488355328)
  (hn : KW P (.ops all rest :: k) .normal ⟨A.n, (d, .e (.r d)) :: A.sl, (d, .own E (bytesC (bs ++ s.data.toList))) :: (i, .gone) :: A.rs⟩ Q) : KW P (.ops all (op :: rest) :: k) .normal A Q :=
 KW.op hg (appS_step hl ho hd hlt hf hc ha hta hT hE hU hr hp hi hx hq hlen) hn
theorem argsOne {args : Array Value} {a : Value} (hs : args.size = 1) (h0 : args.getD 0 undef = a) : args = #[a] := by
 match args, hs with
 | ⟨[x]⟩, _ => simp at h0; subst h0; rfl
theorem KW.runV {all : Array Oper} {op : Oper} {rest : List Oper} {d : Nat} (sv : SV) (hg : op.guard = none) (hd : op.dst = some d) (hlt : Nat.blt d A.n = true)
  (hr : ∀ o h tm w, Sat o h A tm w -> ∃ v, (execOp (evl tm) op).run P w = .ok (.value v) w /\ SvOk o h w sv v) (hn : KW P (.ops all rest :: k) .normal ⟨A.n, (d, sv) :: A.sl, A.rs⟩ Q) : KW P (.ops all (op :: rest) :: k) .normal A Q := by
 refine KW.op hg (fun o h tm w hs => ?_) hn
 obtain ⟨v, h1, h2⟩ := hr o h tm w hs
 have hlt : d < A.n := by simpa [Nat.blt, Nat.succ_le_iff] using hlt
 refine ⟨_, v, w, o, h, h1, .inl rfl, ?_, Ext.refl o w⟩
 simp only [Act.put, hd]
 exact hs.put hlt h2
theorem run_exec_eqnil {op : Oper} {T T2 : TypeId} {x : Operand} {p : Option Addr} (ho : op.op = .binOp .eql T x (.const (.pointer none)) T2) (hx : evl tm x = .pointer p) (hT : P.underlying T = some (.pointer (P.pointee T))) :
  (execOp (evl tm) op).run P w = .ok (.value (.bool p.isNone)) w := by
 simp only [execOp, ho, hx]
 refine value_of ?_
 have hgd : (eqGuard .eql T x (.const (.pointer none)) (.pointer p) (.pointer none)).run P w = .ok () w := by
  unfold eqGuard; split <;> first | rfl | simp_all
 have hc : evl tm (.const (.pointer none)) = .pointer none := rfl
 simp only [hc, Sem.run_bind, hgd, Result.andThen_ok]
 exact run_eql_pointer_nil w T p hT
theorem run_exec_neqsame {op : Oper} {T T2 te : TypeId} {j : TypeInfo} {x y : Operand} {a : Addr} (ho : op.op = .binOp .neq T x y T2) (hx : evl tm x = .pointer (some a)) (hy : evl tm y = .pointer (some a)) (hp : P.underlying T = some (.pointer te)) (hte : P.info? te = some j) :
  (execOp (evl tm) op).run P w = .ok (.value (.bool false)) w := by
 simp only [execOp, ho, hx, hy]
 refine value_of ?_
 have hgd : (eqGuard .neq T x y (.pointer (some a)) (.pointer (some a))).run P w = .ok () w := by
  unfold eqGuard; split <;> first | rfl | simp_all
 simp only [Sem.run_bind, hgd, Result.andThen_ok]
 exact run_neq_ptr_same w a hp hte
theorem Sat.shape (hs : Sat o h A tm w) {i T : Nat} {cs : List EV} {bk : Option Nat} (hi : lk A.rs i = some (.box T cs bk)) : ∃ b, h i = .pointer (some ⟨b, 0, none⟩) /\ w.shape? b = some (T, cs.length) := by
 obtain ⟨b, vs, h0, h1, h2, h3, h4, h5⟩ := hs.res i _ hi
 exact ⟨b, h1, by simp [World.shape?, h2, h4]⟩
open Go.RowKit Go.Proofs in
set_option maxHeartbeats 1000000 in
set_option maxRecDepth 100000 in
theorem string_raw {ρ : Ren} (L : Go.Proofs.Lays.n169 P ρ) (X : Go.Proofs.Builder.Extra P ρ) {b g cap : Nat} {p : Value} {cur : Array Value} {l : List UInt8} (h0 : l ≠ []) (hbk : w.heap[b]? = some (.cells #[p, .slice (some ⟨g, 0, none⟩) l.length cap] (ρ.t 72) (0, 0)))
  (hg : w.heap[g]? = some (.cells cur (ρ.t 5) (0, 0))) (hnc : l.length ≤ cap) (hcm : cap ≤ maxLen) (hcs : cur.size = cap) (hrow : ∀ (j : Nat) x, l[j]? = some x -> w.cell? ((⟨g, 0, none⟩ : Addr).add j) = some (byteV x)) :
  Calls P (ρ.f 169) #[.pointer (some ⟨b, 0, none⟩)] w fun e w' => e = .returned (.string ⟨l.toArray⟩) /\ w' = w.drew.freeze ⟨g, 0, none⟩ l.length := by
 have hl0 : l.length ≠ 0 := by simpa using h0
 have c1 : w.drew.cell? ⟨b, 1, none⟩ = some (.slice (some ⟨g, 0, none⟩) l.length cap) := by
  rw [cell_of_heap (w := w.drew) hbk]; rfl
 have hSD : (Builtin.unsafeSliceData_ #[ρ.t 37] (ρ.t 127) #[.slice (some ⟨g, 0, none⟩) l.length cap]).run P w.drew = .ok (.pointer (some ⟨g, 0, none⟩)) w.drew := run_unsafeSliceData_row _ _ _ _ _ _ (by omega)
 have hUS := run_unsafeString_row (P := P) w.drew (ρ.t 127) (ρ.t 3) (ρ.t 9) (ρ.t 5) L.t127 X.cellsByte g cur.size (by have e : w.drew.heap[g]? = some (.cells cur (ρ.t 5) (0, 0)) := hg; simp [World.shape?, e]) l h0 (by omega) (by unfold maxLen at hcm; omega) hrow
 have mixed := L.mixed
 have a72 := L.a72; have z72 := L.z72; have v72 := L.v72; have u72 := run_underlying L.t72
 have a70 := L.a70; have z70 := L.z70; have v70 := L.v70; have u70 := run_underlying L.t70
 have a37 := L.a37; have z37 := L.z37; have v37 := L.v37; have u37 := run_underlying L.t37
 have a127 := L.a127; have z127 := L.z127; have v127 := L.v127; have u127 := run_underlying L.t127
 have a3 := L.a3; have z3 := L.z3; have v3 := L.v3; have u3 := run_underlying L.t3
 have a9 := L.a9; have z9 := L.z9; have v9 := L.v9; have u9 := run_underlying L.t9
 have a5 := X.a5; have z5 := X.z5; have v5 := X.v5; have u5 := run_underlying X.t5
 have t72 := L.t72; have t70 := L.t70; have t37 := L.t37; have t127 := L.t127; have t3 := L.t3; have t9 := L.t9; have t5 := X.t5
 go_enter L.f169, Body.n169_ntmps ρ
 go_wp2
 go_region_o
 all_goals (go_wp2; go_ret; exact ⟨rfl, rfl⟩)
theorem string_does {ρ : Ren} (L : Go.Proofs.Lays.n169 P ρ) (X : Go.Proofs.Builder.Extra P ρ) {F T E : Nat} (hF : ρ.f 169 = F) (hT : ρ.t 72 = T) (hE : ρ.t 5 = E) {bs : List UInt8} (h0 : bs ≠ []) (y : EV) (bk : Option Nat) :
  DoesF P F [.r 0] [(0, .box T [y, .r 1] bk), (1, .own E (bytesC bs))] (.e (.c (.lit (.string ⟨bs.toArray⟩)))) [] := by
 subst hF; subst hT; subst hE
 intro o h args w hs
 obtain ⟨b, vs, hbk0, h1, h2, h3, h4, h5⟩ := hs.res 0 (.box (ρ.t 72) [y, .r 1] bk) rfl
 have a0 : args.getD 0 undef = h 0 := hs.slot 0 (.e (.r 0)) rfl
 have hargs := argsOne (by exact hs.size) (a0.trans h1)
 subst hargs
 obtain ⟨hown, htag⟩ := bytes_vs hs (i := 1) (E := ρ.t 5) (bs := bs) rfl
 obtain ⟨u0, hu0, _, _⟩ := h5 0 _ rfl
 obtain ⟨u1, hu1, _, he1⟩ := h5 1 _ rfl
 have he1 : u1 = h 1 := he1
 subst he1
 have hvs : vs = #[u0, h 1] := by
  have hsz : vs.size = 2 := h4
  refine Array.ext_getElem? fun j => ?_
  match j with
  | 0 => rw [hu0]; rfl
  | 1 => rw [hu1]; rfl
  | j + 2 => rw [Array.getElem?_eq_none (by omega), Array.getElem?_eq_none (by simp)]
 subst hvs
 rcases hown.2 with ⟨_, hn0⟩ | ⟨g, cap, cur, hv, _, hg, hnc, hcm, hcs, htake⟩
 ·exact absurd (List.length_eq_zero_iff.1 hn0) h0
 ·rw [hv] at h2 hown
  have htg := htag g (by rw [hv]; rfl)
  refine (string_raw L X h0 h2 hg hnc hcm (by simpa using hcs) fun j x hx => hown.cells (g := g) rfl j _ (by rw [List.getElem?_map, hx]; rfl)).mono ?_
  rintro e w' ⟨rfl, rfl⟩
  have hoth : ∀ b', b' ≠ g -> (w.drew.freeze ⟨g, 0, none⟩ bs.length).heap[b']? = w.heap[b']? := fun b' hne => by
   have hl0 : bs.length ≠ 0 := by simpa using h0
   unfold World.freeze
   rw [if_neg hl0]
   show (w.heap.modify g _)[b']? = _
   simp [Array.getElem?_modify, Ne.symm hne]
  have hsz : (w.drew.freeze ⟨g, 0, none⟩ bs.length).heap.size = w.heap.size := by
   have hl0 : bs.length ≠ 0 := by simpa using h0
   unfold World.freeze
   rw [if_neg hl0]
   show (w.heap.modify g _).size = _
   simp
  have hfz : w.drew.freeze ⟨g, 0, none⟩ bs.length = { w.drew with heap := (w.drew.freeze ⟨g, 0, none⟩ bs.length).heap } := by
   have hl0 : bs.length ≠ 0 := by simpa using h0
   unfold World.freeze
   rw [if_neg hl0]
  have hsh : ∀ b', o b' = .sh -> b' ≠ g := by rintro b' hb' rfl; rw [htg] at hb'; cases hb'
  have hno : ∀ b', o b' = .no -> b' ≠ g := by rintro b' hb' rfl; rw [htg] at hb'; cases hb'
  refine ⟨_, o, h, rfl, ⟨rfl, fun b' => by rw [hsz]; exact hs.tags b', fun s x hl => ?_, fun i r hl => by simp [lk] at hl⟩, ⟨by rw [hsz]; exact Nat.le_refl _, by rw [hfz]; rfl, by rw [hfz]; rfl, by rw [hfz]; rfl, by rw [hfz]; exact Drw.mono _ _ (Nat.le_succ w.drawn), fun b' hb' _ => ⟨hb', hoth b' (hsh b' hb')⟩, fun b' hb' _ => ⟨hb', hoth b' (hno b' hb')⟩⟩⟩
  rw [lk_cons] at hl
  split at hl
  ·rename_i e; subst e; cases hl; exact ⟨rfl, rfl⟩
  ·simp [lk] at hl
end
end Go.Sy
end
section
namespace Go.Proofs.YtocnofkagckhkaaGreatDoor.Tr
open Go.Sy Go.Pu
section
variable [Drw]
abbrev buR (p : EV) (X : CV) (b : Nat) : List (Nat × Res) := [(0, .box 109 [p, .r 1] (some b)), (1, .own 5 X)]
theorem ptrB {p : EV} {b : Nat} (s : Nat) (A : St) (hr : lk A.rs 0 = some (.box 109 [p, .r 1] (some b))) (hl : lk A.sl s = some (.e (.r 0))) (o h tm w) (hs : Sat o h A tm w) : ∃ b', h 0 = .pointer (some ⟨b', 0, none⟩) /\ evl tm (.tmp s) = .pointer (some ⟨b', 0, none⟩) /\ w.shape? b' = some (109, 2) := by
 obtain ⟨b', hb, hsh⟩ := hs.shape hr
 exact ⟨b', hb, (show evl tm (.tmp s) = h 0 from hs.slot s _ hl).trans hb, hsh⟩
theorem infoB : ∃ j, Tryz.prog.info? 109 = some j /\ j.size = 2 := by
 have h2 : (Tryz.prog.info? 109).map (·.size) = some 2 := by kernel_rfl
 obtain ⟨j, h3, h4⟩ := Option.map_eq_some_iff.1 h2
 exact ⟨j, h3, h4⟩
theorem checkF_does (n : Nat) (f : Nat -> Nat -> CV) (b : Nat) : DoesF Tryz.prog 129 [.r 0] (buR (.c (.lit (.pointer none))) (.sl n 1 f) b) (.tup []) (buR (.r 0) (.sl n 1 f) b) := by
 refine DoesF.body _ Tryz.func129 rfl rfl rfl rfl ?_
 refine KW.go lay_ok (.nil _) 100 rfl (by simp) ?_
 refine KW.runV (sB true) rfl rfl rfl (fun o h tm w hs => ⟨_, run_exec_eqnil (p := none) rfl (show RepV o w (.lit (.pointer none)) (evl tm (.tmp 5)) from hs.slot 5 (.e (.c (.lit (.pointer none)))) rfl).1 (by kernel_rfl), rfl, rfl⟩) ?_
 refine KW.goIf lay_ok (.nil _) 100 rfl (by simp) rfl trivial (fun h => ?_) fun h => by cases h
 refine KW.go lay_ok (.nil _) 100 rfl (by simp) ?_
 obtain ⟨j, hj, hjs⟩ := infoB
 refine KW.runV (.e (.r 0)) rfl rfl rfl (fun o h tm w hs => ?_) ?_
 ·obtain ⟨b', hb, hx, hsh⟩ := ptrB 8 _ rfl rfl o h tm w hs
  refine ⟨_, ?_, hb.symm⟩
  simp only [execOp, hx]
  exact value_of (Go.Lib.run_to_unsafe w ⟨b', 0, none⟩ (by kernel_rfl) (by kernel_rfl) hj (by rw [hjs]; decide) hsh (Nat.zero_lt_succ 1))
 refine KW.runV (.e (.r 0)) rfl rfl rfl (fun o h tm w hs => ?_) ?_
 ·obtain ⟨b', hb, hx, hsh⟩ := ptrB 9 _ rfl rfl o h tm w hs
  refine ⟨_, ?_, hb.symm⟩
  have hcall := run_callFunc_extern (P := Tryz.prog) Tryz.func148 (by kernel_rfl) (by kernel_rfl) (by kernel_rfl) (e := Extern.AbiNoEscape.same) (by kernel_rfl) #[.pointer (some ⟨b', 0, none⟩)] w
  rw [Go.Lib.run_noEscape] at hcall
  have hfv : evl tm (.func 148) = .func (.func 148) #[] #[] := rfl
  simp only [execOp, resolve, hfv]
  simp only [Deferred.ofValue, Sem.run_bind, Sem.run_pure, Result.andThen_ok, invoke, Array.empty_append, Array.append_empty]
  simp only [List.map_toArray, List.map_cons, List.map_nil, hx]
  exact hcall
 refine KW.runV (.e (.r 0)) rfl rfl rfl (fun o h tm w hs => ?_) ?_
 ·obtain ⟨b', hb, hx, hsh⟩ := ptrB 10 _ rfl rfl o h tm w hs
  refine ⟨_, ?_, hb.symm⟩
  simp only [execOp, hx]
  exact value_of (Go.Lib.run_from_unsafe w ⟨b', 0, none⟩ (by kernel_rfl) (by kernel_rfl) hj hsh (by kernel_rfl))
 refine KW.go lay_ok (.nil _) 100 rfl (by simp) ?_
 exact KW.finN [(0, 0), (1, 1)] rfl rfl rfl (by exact ⟨rfl, rfl, trivial⟩)
theorem checkU_does (n : Nat) (f : Nat -> Nat -> CV) (b : Nat) : DoesF Tryz.prog 129 [.r 0] (buR (.r 0) (.sl n 1 f) b) (.tup []) (buR (.r 0) (.sl n 1 f) b) := by
 refine DoesF.body _ Tryz.func129 rfl rfl rfl rfl ?_
 refine KW.go lay_ok (.nil _) 100 rfl (by simp) ?_
 refine KW.runV (sB false) rfl rfl rfl (fun o h tm w hs => ?_) ?_
 ·obtain ⟨b', hb, hx, hsh⟩ := ptrB 5 _ rfl rfl o h tm w hs
  exact ⟨_, run_exec_eqnil (p := some ⟨b', 0, none⟩) rfl hx (by kernel_rfl), rfl, rfl⟩
 refine KW.goIf lay_ok (.nil _) 100 rfl (by simp) rfl trivial (fun h => by cases h) fun h => ?_
 refine KW.go lay_ok (.nil _) 100 rfl (by simp) ?_
 obtain ⟨j, hj, hjs⟩ := infoB
 refine KW.runV (sB false) rfl rfl rfl (fun o h tm w hs => ?_) ?_
 ·obtain ⟨b', hb, hx, hsh⟩ := ptrB 17 _ rfl rfl o h tm w hs
  obtain ⟨b2, hb2, hx2, _⟩ := ptrB 18 _ rfl rfl o h tm w hs
  rw [hb] at hb2
  cases hb2
  exact ⟨_, run_exec_neqsame rfl hx hx2 (by kernel_rfl) hj, rfl, rfl⟩
 refine KW.goIf lay_ok (.nil _) 100 rfl (by simp) rfl trivial (fun h => by cases h) fun h => ?_
 refine KW.go lay_ok (.nil _) 100 rfl (by simp) ?_
 exact KW.finN [(0, 0), (1, 1)] rfl rfl rfl (by exact ⟨rfl, rfl, trivial⟩)
end
end Go.Proofs.YtocnofkagckhkaaGreatDoor.Tr
end
section
attribute [local instance] Go.Sy.drwNo
namespace Go.Proofs.YtocnofkagckhkaaGreatDoor.Tr
open Go.Sy Go.Pu Go.Sort Go.Lib Go.Shelf
def powVs : List Value := Lib.pow10Tab.map fun z => Value.int .u64 z
def gloP (i T : Nat) : Nat × Res := (i, .glo 0 T powVs)
theorem itoa_does (n : Int) (hn : inK .i64 n) (T : Nat) : DoesF Tryz.prog 103 [iV n] [gloP 0 T] (.e (strV (strL (Lib.itoa n)))) [] := by
 intro o h args w hs
 have h1 : args.getD 0 undef = .int .i64 n := (show RepV o w (.lit (.int .i64 n)) _ from hs.slot 0 (sI n) rfl).1
 have hargs := args1 (by exact hs.size) h1
 subst hargs
 have hg : o 0 = .sh /\ w.heap[0]? = some (.cells powVs.toArray T (0, 0)) := hs.res 0 (.glo 0 T powVs) rfl
 have hT : Lib.TabIs Tryz.prog w "internal/strconv.uint64pow10" .u64 Lib.pow10Tab := by
  unfold Lib.TabIs World.var?
  rw [show Tryz.prog.globalNamed "internal/strconv.uint64pow10" = some 0 by kernel_rfl]
  simp only [Option.bind_some, hg.2]; rfl
 simp only [inK] at hn
 refine (Any.strconv_Itoa layItoaT n (by omega) (by omega) w hT).mono ?_
 rintro e w' ⟨rfl, k, os, rfl⟩
 have hb := below_grow w.heap.size w (Nat.le_refl _) k os
 refine ⟨_, o, h, rfl, ⟨rfl, fun b => ⟨fun i hk => Nat.lt_of_lt_of_le ((hs.tags b).1 i hk) hb.size, fun hk => Nat.lt_of_lt_of_le ((hs.tags b).2 hk) hb.size⟩, fun s x hl => ?_, fun i r hl => by simp [lk] at hl⟩, below_ext hb⟩
 rw [lk_cons] at hl
 split at hl
 ·rename_i e; subst e; cases hl; exact ⟨rfl, rfl⟩
 ·simp [lk] at hl
abbrev nilP : EV := .c (.lit (.pointer none))
theorem wsF_does (bs l : List UInt8) (b : Nat) (hlen : bs.length + l.length ≤ 140737488355328) : DoesF Tryz.prog 102 [.r 0, strV (strL l)] (buR nilP (bytesC bs) b) (.tup [iV l.length, .c (.lit .nilIface)]) (buR (.r 0) (bytesC (bs ++ l)) b) := by
 refine DoesF.body _ Tryz.func102 rfl rfl rfl rfl ?_
 refine KW.go lay_ok U7_ok 100 rfl (by simp) ?_
 refine KW.call0 (checkF_does bs.length (fun e _ => CV.lit (Value.int IntKind.u8 ((bs.getD e 0).toNat : Int))) b) (enters Tryz.func129 rfl rfl) [(0, 0), (1, 1)] [(0, 0), (1, 201)] [] (.inl rfl) rfl rfl rfl rfl rfl trivial
  ⟨⟨_, _, rfl, trivial, (show Mt _ _ _ (EV.ren [(0, 0), (1, 1)] (.r 0)) (.r 0) from .same)⟩, trivial⟩ rfl ⟨rfl, rfl, trivial⟩ rfl ⟨.inr ⟨rfl, .inr ⟨_, _, _, _, b, rfl, rfl⟩⟩, .inl rfl, trivial⟩ rfl rfl (.inl rfl) ?_
 refine KW.go lay_ok U7_ok 100 rfl (by simp) ?_
 refine KW.appS (bs := bs) (s := strL l) lay_ok rfl rfl rfl rfl rfl rfl rfl rfl rfl rfl rfl rfl trivial rfl rfl trivial (by rw [strL_size]; exact hlen) ?_
 refine KW.goRetR lay_ok U7_ok 100 rfl [(0, 0), (1, 14)] rfl rfl ?_ (by simp) (by exact ⟨rfl, by rw [strL_data]; rfl, trivial⟩)
 rw [strL_size]; rfl
theorem wsU_does (bs l : List UInt8) (b : Nat) (hlen : bs.length + l.length ≤ 140737488355328) : DoesF Tryz.prog 102 [.r 0, strV (strL l)] (buR (.r 0) (bytesC bs) b) (.tup [iV l.length, .c (.lit .nilIface)]) (buR (.r 0) (bytesC (bs ++ l)) b) := by
 refine DoesF.body _ Tryz.func102 rfl rfl rfl rfl ?_
 refine KW.go lay_ok U7_ok 100 rfl (by simp) ?_
 refine KW.call0 (checkU_does bs.length (fun e _ => CV.lit (Value.int IntKind.u8 ((bs.getD e 0).toNat : Int))) b) (enters Tryz.func129 rfl rfl) [(0, 0), (1, 1)] [(0, 0), (1, 201)] [] (.inl rfl) rfl rfl rfl rfl rfl trivial
  ⟨⟨_, _, rfl, trivial, (show Mt _ _ _ (EV.ren [(0, 0), (1, 1)] (.r 0)) (.r 0) from .same)⟩, trivial⟩ rfl ⟨rfl, rfl, trivial⟩ rfl ⟨.inr ⟨rfl, .inr ⟨_, _, _, _, b, rfl, rfl⟩⟩, .inl rfl, trivial⟩ rfl rfl (.inl rfl) ?_
 refine KW.go lay_ok U7_ok 100 rfl (by simp) ?_
 refine KW.appS (bs := bs) (s := strL l) lay_ok rfl rfl rfl rfl rfl rfl rfl rfl rfl rfl rfl rfl trivial rfl rfl trivial (by rw [strL_size]; exact hlen) ?_
 refine KW.goRetR lay_ok U7_ok 100 rfl [(0, 0), (1, 14)] rfl rfl ?_ (by simp) (by exact ⟨rfl, by rw [strL_data]; rfl, trivial⟩)
 rw [strL_size]; rfl
def buG (p : EV) (X : CV) (b T : Nat) : List (Nat × Res) := [(0, .box 109 [p, .r 1] (some b)), (1, .own 5 X), gloP 2 T]
set_option maxHeartbeats 1600000 in
theorem writeU_does (T : Nat) (t : Tr) : gT t -> t.In -> ∀ (bs : List UInt8) (b : Nat), (bs.length : Int) + 30 * cntN t ≤ 1000000 -> DoesF Tryz.prog 60 [.r 0, trV t] (buG (.r 0) (bytesC bs) b T) (.tup []) (buR (.r 0) (bytesC (bs ++ showT t)) b) := by
 induction t using Tr.ind with
 | h t ih =>
   have ihU : ∀ t' : Tr, (∃ i, i < t.n /\ t' = t.k i) -> gT t' -> t'.In -> ∀ (bs : List UInt8) (b : Nat), (bs.length : Int) + 30 * cntN t' ≤ 1000000 -> DoesF Tryz.prog 60 [.r 0, trV t'] (buG (.r 0) (bytesC bs) b T) (.tup []) (buR (.r 0) (bytesC (bs ++ showT t')) b) := fun t' h => by
    obtain ⟨i, hi, rfl⟩ := h
    exact ih i hi
   intro hg hin bs b hlen
   obtain ⟨iv, ir, ik⟩ := (Tr.in_iff t).1 hin
   simp only [inK] at iv ir
   refine DoesF.body _ Tryz.func60 rfl rfl rfl rfl ?_
   refine KW.open 1 t rfl ?_
   refine KW.goIf lay_ok U7_ok 100 rfl (by simp) rfl trivial (fun h => ?_) fun h => ?_
   ·have h0 : t.n = 0 := by simpa using h
    have hl := itoa_size (n := t.r) (by omega) (by omega)
    have pc := cntN_pos t
    rw [showT_eq, if_neg (by omega)]
    refine KW.go lay_ok U7_ok 100 rfl (by simp) ?_
    refine KW.dupG 2 300 rfl ?_
    refine KW.call0 (itoa_does t.r (by simp only [inK]; omega) T) (enters Tryz.func103 rfl rfl) [(0, 300)] [] [] (.inl rfl) rfl rfl rfl rfl rfl trivial ⟨⟨_, _, rfl, trivial, .conv (CVEq.refl _)⟩, trivial⟩ rfl ⟨rfl, trivial⟩ rfl trivial rfl rfl (.inl rfl) ?_
    refine KW.go lay_ok U7_ok 100 rfl (by simp) ?_
    refine KW.call0 (wsU_does bs (Lib.itoa t.r) b (by omega)) (enters Tryz.func102 rfl rfl) [(0, 0), (1, 1)] [(0, 0), (1, 201)] [] (.inl rfl) rfl rfl rfl rfl rfl trivial
     ⟨⟨_, _, rfl, trivial, (show Mt _ _ _ (EV.ren [(0, 0), (1, 1)] (.r 0)) (.r 0) from .same)⟩, ⟨_, _, rfl, trivial, .conv (CVEq.refl _)⟩, trivial⟩ rfl ⟨rfl, rfl, trivial⟩ rfl ⟨.inr ⟨rfl, .inr ⟨_, _, _, _, b, rfl, rfl⟩⟩, .inl rfl, trivial⟩ rfl rfl (.inl rfl) ?_
    exact KW.goRetR lay_ok U7_ok 100 rfl [(0, 0), (1, 201)] rfl rfl rfl (by simp) (by exact ⟨rfl, rfl, trivial⟩)
   ·have h0 : t.n ≠ 0 := by simpa using h
    obtain ⟨h2, _, _, _, g0, g1⟩ := gT_kids hg h0
    have hl := itoa_size (n := t.v) (by omega) (by omega)
    have p0 := cntN_pos (t.k 0)
    have p1 := cntN_pos (t.k 1)
    have s0 := showT_size (t.k 0) g0 (ik 0 (by omega))
    have s1 := showT_size (t.k 1) g1 (ik 1 (by omega))
    have cc := cntN_eq t
    rw [if_pos h2] at cc
    rw [showT_eq, if_pos h2]
    refine KW.go lay_ok U7_ok 100 rfl (by simp) ?_
    refine KW.dupG 2 300 rfl ?_
    refine KW.call0 (itoa_does t.v (by simp only [inK]; omega) T) (enters Tryz.func103 rfl rfl) [(0, 300)] [] [] (.inl rfl) rfl rfl rfl rfl rfl trivial ⟨⟨_, _, rfl, trivial, .conv (CVEq.refl _)⟩, trivial⟩ rfl ⟨rfl, trivial⟩ rfl trivial rfl rfl (.inl rfl) ?_
    refine KW.go lay_ok U7_ok 100 rfl (by simp [show (⟨#[91]⟩ : ByteArray).size = 1 from rfl, show (⟨#[32]⟩ : ByteArray).size = 1 from rfl]; omega) ?_
    refine KW.call0 (wsU_does bs (91 :: (Lib.itoa t.v ++ [32])) b (by simp only [List.length_append, List.length_cons, List.length_nil]; omega)) (enters Tryz.func102 rfl rfl) [(0, 0), (1, 1)] [(0, 0), (1, 201)] [] (.inl rfl) rfl rfl rfl rfl rfl trivial
     ⟨⟨_, _, rfl, trivial, (show Mt _ _ _ (EV.ren [(0, 0), (1, 1)] (.r 0)) (.r 0) from .same)⟩, ⟨_, _, rfl, trivial, .conv (show Value.string ((strL [91] ++ strL (Lib.itoa t.v)) ++ strL [32]) = Value.string _ by rw [strL_append, strL_append]; simp)⟩, trivial⟩ rfl ⟨rfl, rfl, trivial⟩ rfl ⟨.inr ⟨rfl, .inr ⟨_, _, _, _, b, rfl, rfl⟩⟩, .inl rfl, trivial⟩ rfl rfl (.inl rfl) ?_
    refine KW.go lay_ok U7_ok 100 rfl (by simp; omega) ?_
    refine KW.dupG 2 300 rfl ?_
    refine KW.call0 (ihU (t.k 0) ⟨0, by omega, rfl⟩ g0 (ik 0 (by omega)) (bs ++ (91 :: (Lib.itoa t.v ++ [32]))) b (by simp only [List.length_append, List.length_cons, List.length_nil, Int.natCast_add, Int.natCast_one]; omega)) (enters Tryz.func60 rfl rfl) [(0, 0), (1, 201), (2, 300)] [(0, 0), (1, 202)] [] (.inl rfl) rfl rfl rfl rfl rfl trivial
     ⟨⟨_, _, rfl, trivial, (show Mt _ _ _ (EV.ren [(0, 0), (1, 201), (2, 300)] (.r 0)) (.r 0) from .same)⟩, ⟨_, _, rfl, trivial, (show Mt _ _ _ (EV.ren [(0, 0), (1, 201), (2, 300)] (trV (t.k 0))) (trV (t.k 0)) from .same)⟩, trivial⟩ rfl ⟨rfl, rfl, rfl, trivial⟩ rfl ⟨.inr ⟨rfl, .inr ⟨_, _, _, _, b, rfl, rfl⟩⟩, .inl rfl, trivial⟩ rfl rfl (.inl rfl) ?_
    refine KW.go lay_ok U7_ok 100 rfl (by simp) ?_
    refine KW.call0 (wsU_does ((bs ++ (91 :: (Lib.itoa t.v ++ [32]))) ++ showT (t.k 0)) [32] b (by simp only [List.length_append, List.length_cons, List.length_nil]; omega)) (enters Tryz.func102 rfl rfl) [(0, 0), (1, 202)] [(0, 0), (1, 203)] [] (.inl rfl) rfl rfl rfl rfl rfl trivial
     ⟨⟨_, _, rfl, trivial, (show Mt _ _ _ (EV.ren [(0, 0), (1, 202)] (.r 0)) (.r 0) from .same)⟩, ⟨_, _, rfl, trivial, .conv (CVEq.refl _)⟩, trivial⟩ rfl ⟨rfl, rfl, trivial⟩ rfl ⟨.inr ⟨rfl, .inr ⟨_, _, _, _, b, rfl, rfl⟩⟩, .inl rfl, trivial⟩ rfl rfl (.inl rfl) ?_
    refine KW.go lay_ok U7_ok 100 rfl (by simp; omega) ?_
    refine KW.dupG 2 300 rfl ?_
    refine KW.call0 (ihU (t.k 1) ⟨1, by omega, rfl⟩ g1 (ik 1 (by omega)) (((bs ++ (91 :: (Lib.itoa t.v ++ [32]))) ++ showT (t.k 0)) ++ [32]) b (by simp only [List.length_append, List.length_cons, List.length_nil, Int.natCast_add, Int.natCast_one]; omega)) (enters Tryz.func60 rfl rfl) [(0, 0), (1, 203), (2, 300)] [(0, 0), (1, 204)] [] (.inl rfl) rfl rfl rfl rfl rfl trivial
     ⟨⟨_, _, rfl, trivial, (show Mt _ _ _ (EV.ren [(0, 0), (1, 203), (2, 300)] (.r 0)) (.r 0) from .same)⟩, ⟨_, _, rfl, trivial, (show Mt _ _ _ (EV.ren [(0, 0), (1, 203), (2, 300)] (trV (t.k 1))) (trV (t.k 1)) from .same)⟩, trivial⟩ rfl ⟨rfl, rfl, rfl, trivial⟩ rfl ⟨.inr ⟨rfl, .inr ⟨_, _, _, _, b, rfl, rfl⟩⟩, .inl rfl, trivial⟩ rfl rfl (.inl rfl) ?_
    refine KW.go lay_ok U7_ok 100 rfl (by simp) ?_
    refine KW.call0 (wsU_does ((((bs ++ (91 :: (Lib.itoa t.v ++ [32]))) ++ showT (t.k 0)) ++ [32]) ++ showT (t.k 1)) [93] b (by simp only [List.length_append, List.length_cons, List.length_nil]; omega)) (enters Tryz.func102 rfl rfl) [(0, 0), (1, 204)] [(0, 0), (1, 205)] [] (.inl rfl) rfl rfl rfl rfl rfl trivial
     ⟨⟨_, _, rfl, trivial, (show Mt _ _ _ (EV.ren [(0, 0), (1, 204)] (.r 0)) (.r 0) from .same)⟩, ⟨_, _, rfl, trivial, .conv (CVEq.refl _)⟩, trivial⟩ rfl ⟨rfl, rfl, trivial⟩ rfl ⟨.inr ⟨rfl, .inr ⟨_, _, _, _, b, rfl, rfl⟩⟩, .inl rfl, trivial⟩ rfl rfl (.inl rfl) ?_
    refine KW.go lay_ok U7_ok 100 rfl (by simp) ?_
    exact KW.finN [(0, 0), (1, 205)] rfl rfl rfl (by exact ⟨rfl, by simp only [List.append_assoc, List.cons_append, List.nil_append]; rfl, trivial⟩)
set_option maxHeartbeats 1600000 in
theorem writeF_does (T : Nat) (t : Tr) : gT t -> t.In -> ∀ (bs : List UInt8) (b : Nat), (bs.length : Int) + 30 * cntN t ≤ 1000000 -> DoesF Tryz.prog 60 [.r 0, trV t] (buG nilP (bytesC bs) b T) (.tup []) (buR (.r 0) (bytesC (bs ++ showT t)) b) := by
 intro hg hin bs b hlen
 obtain ⟨iv, ir, ik⟩ := (Tr.in_iff t).1 hin
 simp only [inK] at iv ir
 refine DoesF.body _ Tryz.func60 rfl rfl rfl rfl ?_
 refine KW.open 1 t rfl ?_
 refine KW.goIf lay_ok U7_ok 100 rfl (by simp) rfl trivial (fun h => ?_) fun h => ?_
 ·have h0 : t.n = 0 := by simpa using h
  have hl := itoa_size (n := t.r) (by omega) (by omega)
  have pc := cntN_pos t
  rw [showT_eq, if_neg (by omega)]
  refine KW.go lay_ok U7_ok 100 rfl (by simp) ?_
  refine KW.dupG 2 300 rfl ?_
  refine KW.call0 (itoa_does t.r (by simp only [inK]; omega) T) (enters Tryz.func103 rfl rfl) [(0, 300)] [] [] (.inl rfl) rfl rfl rfl rfl rfl trivial ⟨⟨_, _, rfl, trivial, .conv (CVEq.refl _)⟩, trivial⟩ rfl ⟨rfl, trivial⟩ rfl trivial rfl rfl (.inl rfl) ?_
  refine KW.go lay_ok U7_ok 100 rfl (by simp) ?_
  refine KW.call0 (wsF_does bs (Lib.itoa t.r) b (by omega)) (enters Tryz.func102 rfl rfl) [(0, 0), (1, 1)] [(0, 0), (1, 201)] [] (.inl rfl) rfl rfl rfl rfl rfl trivial
   ⟨⟨_, _, rfl, trivial, (show Mt _ _ _ (EV.ren [(0, 0), (1, 1)] (.r 0)) (.r 0) from .same)⟩, ⟨_, _, rfl, trivial, .conv (CVEq.refl _)⟩, trivial⟩ rfl ⟨rfl, rfl, trivial⟩ rfl ⟨.inr ⟨rfl, .inr ⟨_, _, _, _, b, rfl, rfl⟩⟩, .inl rfl, trivial⟩ rfl rfl (.inl rfl) ?_
  exact KW.goRetR lay_ok U7_ok 100 rfl [(0, 0), (1, 201)] rfl rfl rfl (by simp) (by exact ⟨rfl, rfl, trivial⟩)
 ·have h0 : t.n ≠ 0 := by simpa using h
  obtain ⟨h2, _, _, _, g0, g1⟩ := gT_kids hg h0
  have hl := itoa_size (n := t.v) (by omega) (by omega)
  have p0 := cntN_pos (t.k 0)
  have p1 := cntN_pos (t.k 1)
  have s0 := showT_size (t.k 0) g0 (ik 0 (by omega))
  have s1 := showT_size (t.k 1) g1 (ik 1 (by omega))
  have cc := cntN_eq t
  rw [if_pos h2] at cc
  rw [showT_eq, if_pos h2]
  refine KW.go lay_ok U7_ok 100 rfl (by simp) ?_
  refine KW.dupG 2 300 rfl ?_
  refine KW.call0 (itoa_does t.v (by simp only [inK]; omega) T) (enters Tryz.func103 rfl rfl) [(0, 300)] [] [] (.inl rfl) rfl rfl rfl rfl rfl trivial ⟨⟨_, _, rfl, trivial, .conv (CVEq.refl _)⟩, trivial⟩ rfl ⟨rfl, trivial⟩ rfl trivial rfl rfl (.inl rfl) ?_
  refine KW.go lay_ok U7_ok 100 rfl (by simp [show (⟨#[91]⟩ : ByteArray).size = 1 from rfl, show (⟨#[32]⟩ : ByteArray).size = 1 from rfl]; omega) ?_
  refine KW.call0 (wsF_does bs (91 :: (Lib.itoa t.v ++ [32])) b (by simp only [List.length_append, List.length_cons, List.length_nil]; omega)) (enters Tryz.func102 rfl rfl) [(0, 0), (1, 1)] [(0, 0), (1, 201)] [] (.inl rfl) rfl rfl rfl rfl rfl trivial
   ⟨⟨_, _, rfl, trivial, (show Mt _ _ _ (EV.ren [(0, 0), (1, 1)] (.r 0)) (.r 0) from .same)⟩, ⟨_, _, rfl, trivial, .conv (show Value.string ((strL [91] ++ strL (Lib.itoa t.v)) ++ strL [32]) = Value.string _ by rw [strL_append, strL_append]; simp)⟩, trivial⟩ rfl ⟨rfl, rfl, trivial⟩ rfl ⟨.inr ⟨rfl, .inr ⟨_, _, _, _, b, rfl, rfl⟩⟩, .inl rfl, trivial⟩ rfl rfl (.inl rfl) ?_
  refine KW.go lay_ok U7_ok 100 rfl (by simp; omega) ?_
  refine KW.dupG 2 300 rfl ?_
  refine KW.call0 (writeU_does T (t.k 0) g0 (ik 0 (by omega)) (bs ++ (91 :: (Lib.itoa t.v ++ [32]))) b (by simp only [List.length_append, List.length_cons, List.length_nil, Int.natCast_add, Int.natCast_one]; omega)) (enters Tryz.func60 rfl rfl) [(0, 0), (1, 201), (2, 300)] [(0, 0), (1, 202)] [] (.inl rfl) rfl rfl rfl rfl rfl trivial
   ⟨⟨_, _, rfl, trivial, (show Mt _ _ _ (EV.ren [(0, 0), (1, 201), (2, 300)] (.r 0)) (.r 0) from .same)⟩, ⟨_, _, rfl, trivial, (show Mt _ _ _ (EV.ren [(0, 0), (1, 201), (2, 300)] (trV (t.k 0))) (trV (t.k 0)) from .same)⟩, trivial⟩ rfl ⟨rfl, rfl, rfl, trivial⟩ rfl ⟨.inr ⟨rfl, .inr ⟨_, _, _, _, b, rfl, rfl⟩⟩, .inl rfl, trivial⟩ rfl rfl (.inl rfl) ?_
  refine KW.go lay_ok U7_ok 100 rfl (by simp) ?_
  refine KW.call0 (wsU_does ((bs ++ (91 :: (Lib.itoa t.v ++ [32]))) ++ showT (t.k 0)) [32] b (by simp only [List.length_append, List.length_cons, List.length_nil]; omega)) (enters Tryz.func102 rfl rfl) [(0, 0), (1, 202)] [(0, 0), (1, 203)] [] (.inl rfl) rfl rfl rfl rfl rfl trivial
   ⟨⟨_, _, rfl, trivial, (show Mt _ _ _ (EV.ren [(0, 0), (1, 202)] (.r 0)) (.r 0) from .same)⟩, ⟨_, _, rfl, trivial, .conv (CVEq.refl _)⟩, trivial⟩ rfl ⟨rfl, rfl, trivial⟩ rfl ⟨.inr ⟨rfl, .inr ⟨_, _, _, _, b, rfl, rfl⟩⟩, .inl rfl, trivial⟩ rfl rfl (.inl rfl) ?_
  refine KW.go lay_ok U7_ok 100 rfl (by simp; omega) ?_
  refine KW.dupG 2 300 rfl ?_
  refine KW.call0 (writeU_does T (t.k 1) g1 (ik 1 (by omega)) (((bs ++ (91 :: (Lib.itoa t.v ++ [32]))) ++ showT (t.k 0)) ++ [32]) b (by simp only [List.length_append, List.length_cons, List.length_nil, Int.natCast_add, Int.natCast_one]; omega)) (enters Tryz.func60 rfl rfl) [(0, 0), (1, 203), (2, 300)] [(0, 0), (1, 204)] [] (.inl rfl) rfl rfl rfl rfl rfl trivial
   ⟨⟨_, _, rfl, trivial, (show Mt _ _ _ (EV.ren [(0, 0), (1, 203), (2, 300)] (.r 0)) (.r 0) from .same)⟩, ⟨_, _, rfl, trivial, (show Mt _ _ _ (EV.ren [(0, 0), (1, 203), (2, 300)] (trV (t.k 1))) (trV (t.k 1)) from .same)⟩, trivial⟩ rfl ⟨rfl, rfl, rfl, trivial⟩ rfl ⟨.inr ⟨rfl, .inr ⟨_, _, _, _, b, rfl, rfl⟩⟩, .inl rfl, trivial⟩ rfl rfl (.inl rfl) ?_
  refine KW.go lay_ok U7_ok 100 rfl (by simp) ?_
  refine KW.call0 (wsU_does ((((bs ++ (91 :: (Lib.itoa t.v ++ [32]))) ++ showT (t.k 0)) ++ [32]) ++ showT (t.k 1)) [93] b (by simp only [List.length_append, List.length_cons, List.length_nil]; omega)) (enters Tryz.func102 rfl rfl) [(0, 0), (1, 204)] [(0, 0), (1, 205)] [] (.inl rfl) rfl rfl rfl rfl rfl trivial
   ⟨⟨_, _, rfl, trivial, (show Mt _ _ _ (EV.ren [(0, 0), (1, 204)] (.r 0)) (.r 0) from .same)⟩, ⟨_, _, rfl, trivial, .conv (CVEq.refl _)⟩, trivial⟩ rfl ⟨rfl, rfl, trivial⟩ rfl ⟨.inr ⟨rfl, .inr ⟨_, _, _, _, b, rfl, rfl⟩⟩, .inl rfl, trivial⟩ rfl rfl (.inl rfl) ?_
  refine KW.go lay_ok U7_ok 100 rfl (by simp) ?_
  exact KW.finN [(0, 0), (1, 205)] rfl rfl rfl (by exact ⟨rfl, by simp only [List.append_assoc, List.cons_append, List.nil_append]; rfl, trivial⟩)
def textL (t : Tr) (vars : Int) : List UInt8 := if splE t vars = 0 then showT t else []
theorem text_does (t : Tr) (hin : t.In) (vars : Int) (T : Nat) : DoesF Tryz.prog 30 [trV t, iV vars] [gloP 0 T] (.tup [strV (strL (textL t vars)), eV (splE t vars)]) [] := by
 refine DoesF.body _ Tryz.func30 rfl rfl rfl rfl ?_
 refine KW.goIf lay_ok U7_ok 100 rfl (by simp) rfl trivial (fun h => ?_) fun h => ?_
 ·have h0 : splE t vars ≠ 0 := by simpa using h
  refine KW.goRet lay_ok U7_ok 100 rfl rfl ?_ (by simp) trivial
  simp only [textL, if_neg h0, unTr_cells]; rfl
 ·have h0 : splE t vars = 0 := by simpa using h
  obtain ⟨hg, hc⟩ := splE_g h0
  have hl := showT_len t
  have e : textL t vars = showT t := by rw [textL, if_pos h0]
  rw [e, h0]
  refine KW.go lay_ok U7_ok 100 rfl (by simp) ?_
  refine KW.name 7 rfl fun b => ?_
  refine KW.nilB 7 1 200 5 (bytesC []) rfl rfl rfl rfl rfl ?_
  refine KW.call0 (writeF_does T t hg hin [] b (by simp only [List.length_nil]; omega)) (enters Tryz.func60 rfl rfl) [(0, 7), (1, 200), (2, 0)] [(0, 7), (1, 201)] [] (.inl rfl) rfl rfl rfl rfl rfl trivial
   ⟨⟨_, _, rfl, trivial, (show Mt _ _ _ (EV.ren [(0, 7), (1, 200), (2, 0)] (.r 0)) (.r 0) from .same)⟩, ⟨_, _, rfl, trivial, (show Mt _ _ _ (EV.ren [(0, 7), (1, 200), (2, 0)] (trV t)) (trV t) from .same)⟩, trivial⟩ rfl ⟨rfl, rfl, rfl, trivial⟩ rfl ⟨.inr ⟨rfl, .inr ⟨_, _, _, _, b, rfl, rfl⟩⟩, .inl rfl, trivial⟩ rfl rfl (.inl rfl) ?_
  rw [List.nil_append]
  refine KW.go lay_ok U7_ok 100 rfl (by simp) ?_
  refine KW.call0 (string_does layString extraString rfl rfl rfl (bs := showT t) (fun e => by rw [e] at hl; exact absurd hl (by decide)) (.r 0) (some b)) (enters Tryz.func61 rfl rfl) [(0, 7), (1, 201)] [] [] (.inl rfl) rfl rfl rfl rfl rfl trivial
   ⟨⟨_, _, rfl, trivial, (show Mt _ _ _ (EV.ren [(0, 7), (1, 201)] (.r 0)) (.r 0) from .same)⟩, trivial⟩ rfl ⟨rfl, rfl, trivial⟩ rfl trivial rfl rfl (.inl rfl) ?_
  exact KW.goRet lay_ok U7_ok 100 rfl rfl rfl (by simp) trivial
end Go.Proofs.YtocnofkagckhkaaGreatDoor.Tr
end
section
attribute [local instance] Go.Sy.drwNo
namespace Go.Proofs.YtocnofkagckhkaaGreatDoor
open Go.Sy Go.Pu Go.Proofs.YtocnofkagckhkaaGreatDoor.Tr
theorem ex36_text : textL (growP [1, 6] [3, 5] 25 0 0 0).1 3 = [91, 48, 32, 91, 49, 32, 45, 49, 32, 91, 50, 32, 45, 50, 32, 49, 93, 93, 32, 48, 93] := by
 rw [textL, if_pos ex36_tree.2]
 decide +kernel
theorem lf_in {r : Int} (h : inK .i64 r) : (Tr.lf r).In := (Tr.in_iff _).2 ⟨by simp [inK], h, fun i hi => absurd hi (Nat.not_lt_zero _)⟩
theorem two_in {v : Int} {a b : Tr} (h : inK .i64 v) (ha : a.In) (hb : b.In) : (Tr.two v a b).In := (Tr.in_iff _).2 ⟨h, by simp [inK], fun i hi => match i, hi with
 | 0, _ => ha
 | 1, _ => hb⟩
theorem ex36_tin : (growP [1, 6] [3, 5] 25 0 0 0).1.In := by
 have e : (growP [1, 6] [3, 5] 25 0 0 0).1 = ex36T := by kernel_rfl
 rw [e]
 exact two_in (by simp [inK]) (two_in (by simp [inK]) (lf_in (by simp [inK])) (two_in (by simp [inK]) (lf_in (by simp [inK])) (lf_in (by simp [inK])))) (lf_in (by simp [inK]))
def ex36C : CovP := ⟨[1, 6], [3, 5], (growP [1, 6] [3, 5] 25 0 0 0).1⟩
theorem ex36_mk : makeC ex36 = ex36C := by
 obtain ⟨h1, h2, h3, h4⟩ := ex36_make
 cases h : makeC ex36 with
 | mk a b t => rw [h] at h2 h3 h4; simp only at h2 h3 h4; rw [h2, h3, h4]; rfl
set_option maxHeartbeats 3200000 in
theorem awake36_does (T : Nat) : DoesF Tryz.prog 10 [] [gloP 0 T] (sB true) [] := by
 refine DoesF.body _ Tryz.func10 rfl rfl rfl rfl ?_
 refine KW.go lay_ok Y3_ok 100 rfl ?_ ?_
 ·simp only [unN_nodesC, isN_nodesC, true_and, and_true, ifcV_errV, show (⟨ex36.vars, ex36.nodes, ex36.top⟩ : FormP) = ex36 from rfl]
  simp [ex36_in]
 simp only [unN_nodesC, show (⟨ex36.vars, ex36.nodes, ex36.top⟩ : FormP) = ex36 from rfl, ex36_mk, ex36_make.1]
 refine KW.guardT rfl rfl (by simp) ?_
 refine KW.go lay_ok Y3_ok 100 rfl (by simp) ?_
 refine KW.frz1 21 rfl rfl rfl ?_
 refine KW.go lay_ok Y3_ok 100 rfl (by simp [ex36C]) ?_
 refine KW.guardT rfl rfl (by simp [ex36C]) ?_
 refine KW.go lay_ok Y3_ok 100 rfl (by simp) ?_
 refine KW.frz1 28 rfl rfl rfl ?_
 refine KW.goIf lay_ok Y3_ok 100 rfl (by simp [ex36C]) rfl trivial (fun h => absurd h (by simp [ex36C])) fun h => ?_
 refine KW.go lay_ok Y3_ok 100 rfl (by simp) ?_
 refine KW.dupG 0 300 rfl ?_
 refine KW.call0 (Tr.text_does ex36C.tree ex36_tin 3 T) (enters Tryz.func30 rfl rfl) [(0, 300)] [] [] (.inl rfl) rfl rfl rfl rfl rfl trivial
  ⟨⟨_, _, rfl, trivial, (show Mt _ _ _ (EV.ren [(0, 300)] (trV ex36C.tree)) (trV ex36C.tree) from .same)⟩, ⟨_, _, rfl, trivial, .conv (CVEq.refl _)⟩, trivial⟩ rfl ⟨rfl, trivial⟩ rfl trivial rfl rfl (.inl rfl) ?_
 refine KW.go lay_ok Y3_ok 100 rfl (by simp) ?_
 refine KW.join (I := fun _ : Unit => ⟨Tryz.f10.ntmps, [(1, .e (.r 1)), (3, .e (strV (strL (textL ex36C.tree 3)))), (4, .e (eV (splE ex36C.tree 3))), (5, sB (decide (covE ex36 ex36C = 0) && decide ((faultV ex36 ex36C).1 = 0))), (7, .e (eV (covE ex36 ex36C)))], [(1, .box 30 [lV [1, 6], lV [3, 5], iV ex36C.tree.v, .c ex36C.tree.ks, iV ex36C.tree.r] none)]⟩) (R := fun _ => True) ?_ ?_
 ·refine KW.phases lay_ok Y3_ok rfl 100 rfl (by simp) ?_
  refine KA.phase lay_ok Y3_ok [0, 1, 2, 3, 4, 5, 6, 7, 8] 9 (by decide +kernel) (by decide +kernel) rfl rfl ?_ (cs := [#[true, true, true, true, true, true, false, true, true, false, false], #[true, true, true, true, true, true, true, true, true, false, false]]) (by decide +kernel) ?_ (ds := []) (by decide +kernel) (fun L h => nomatch h)
  ·simp only [unN_nodesC, isN_nodesC, unI_ints, isI_ints, unTr_cells, isKs_ks, true_and, and_true]
   exact ⟨ex36_in, ex36_tin, by decide, by decide⟩
  intro L hL
  simp only [List.mem_cons, List.not_mem_nil, or_false] at hL
  rcases hL with rfl | rfl
  ·refine ⟨_, rfl, KW.go lay_ok Y3_ok 10 rfl (by simp) (KW.stop ⟨rfl, ?_⟩)⟩
   refine KA.phase lay_ok Y3_ok [6, 10] 11 (by decide +kernel) (by decide +kernel) rfl rfl (by simp) (cs := []) (by decide +kernel) (fun L h => nomatch h) (ds := [#[true, true, true, true, true, true, true, true, true, true, true]]) (by decide +kernel) ?_
   intro L hL
   obtain rfl : L = #[true, true, true, true, true, true, true, true, true, true, true] := by simpa using hL
   refine KW.goToR lay_ok Y3_ok 100 rfl () [(1, 1)] rfl rfl ⟨rfl, rfl, rfl, ?_, ?_, trivial⟩ (by simp) trivial ⟨rfl, trivial⟩
   ·simp only [unN_nodesC, unI_ints, unTr_cells]; rfl
   ·simp only [unN_nodesC, unI_ints, unTr_cells]; rfl
  ·refine ⟨_, rfl, KW.go lay_ok Y3_ok 10 rfl (by simp) (KW.stop ⟨rfl, ?_⟩)⟩
   refine KA.phase lay_ok Y3_ok [10] 11 (by decide +kernel) (by decide +kernel) rfl rfl (by simp) (cs := []) (by decide +kernel) (fun L h => nomatch h) (ds := [#[true, true, true, true, true, true, true, true, true, true, true]]) (by decide +kernel) ?_
   intro L hL
   obtain rfl : L = #[true, true, true, true, true, true, true, true, true, true, true] := by simpa using hL
   refine KW.goToR lay_ok Y3_ok 100 rfl () [(1, 1)] rfl rfl ⟨rfl, rfl, rfl, ?_, ?_, trivial⟩ (by simp) trivial ⟨rfl, trivial⟩
   ·simp only [unN_nodesC, unI_ints, unTr_cells]; rfl
   ·simp only [unN_nodesC, unI_ints, unTr_cells]; rfl
 rintro _ _
 refine KW.go lay_ok Y3_ok 100 rfl (by simp) ?_
 refine KW.frzB 1 0 45 rfl rfl rfl rfl ?_
 refine KW.join (I := fun _ : Unit => ⟨Tryz.f10.ntmps, [(3, .e (strV (strL (textL ex36C.tree 3)))), (4, .e (eV (splE ex36C.tree 3))), (5, sB (decide (covE ex36 ex36C = 0) && decide ((faultV ex36 ex36C).1 = 0))), (7, .e (eV (covE ex36 ex36C))), (8, sB (decide (covE ex36 ⟨[1], [3, 5], ex36C.tree⟩ = 0) && decide ((faultV ex36 ⟨[1], [3, 5], ex36C.tree⟩).1 = 0))), (9, .e (.r 9)), (10, .e (eV (covE ex36 ⟨[1], [3, 5], ex36C.tree⟩)))], [(9, .box 35 [iV (if covE ex36 ⟨[1], [3, 5], ex36C.tree⟩ = 0 then faultV ex36 ⟨[1], [3, 5], ex36C.tree⟩ else (0, 0)).1, iV (if covE ex36 ⟨[1], [3, 5], ex36C.tree⟩ = 0 then faultV ex36 ⟨[1], [3, 5], ex36C.tree⟩ else (0, 0)).2] none)]⟩) (R := fun _ => True) ?_ ?_
 ·refine KW.phases lay_ok Y3_ok rfl 100 rfl (by simp) ?_
  refine KA.phase lay_ok Y3_ok [0, 1, 2, 3, 4, 5, 6, 7, 8] 9 (by decide +kernel) (by decide +kernel) rfl rfl ?_ (cs := [#[true, true, true, true, true, true, false, true, true, false, false], #[true, true, true, true, true, true, true, true, true, false, false]]) (by decide +kernel) ?_ (ds := []) (by decide +kernel) (fun L h => nomatch h)
  ·simp only [unN_nodesC, isN_nodesC, unI_ints, isI_ints, unTr_cells, isKs_ks, true_and, and_true]
   exact ⟨ex36_in, ex36_tin, by simp, by simp⟩
  intro L hL
  simp only [List.mem_cons, List.not_mem_nil, or_false] at hL
  rcases hL with rfl | rfl
  ·refine ⟨_, rfl, KW.go lay_ok Y3_ok 10 rfl (by simp) (KW.stop ⟨rfl, ?_⟩)⟩
   refine KA.phase lay_ok Y3_ok [6, 10] 11 (by decide +kernel) (by decide +kernel) rfl rfl (by simp) (cs := []) (by decide +kernel) (fun L h => nomatch h) (ds := [#[true, true, true, true, true, true, true, true, true, true, true]]) (by decide +kernel) ?_
   intro L hL
   obtain rfl : L = #[true, true, true, true, true, true, true, true, true, true, true] := by simpa using hL
   simp only [unN_nodesC, unI_ints, unTr_cells]
   exact KW.goToR lay_ok Y3_ok 100 rfl () [(9, 9)] rfl rfl ⟨rfl, rfl, rfl, rfl, rfl, rfl, rfl, trivial⟩ (by simp) trivial ⟨rfl, trivial⟩
  ·refine ⟨_, rfl, KW.go lay_ok Y3_ok 10 rfl (by simp) (KW.stop ⟨rfl, ?_⟩)⟩
   refine KA.phase lay_ok Y3_ok [10] 11 (by decide +kernel) (by decide +kernel) rfl rfl (by simp) (cs := []) (by decide +kernel) (fun L h => nomatch h) (ds := [#[true, true, true, true, true, true, true, true, true, true, true]]) (by decide +kernel) ?_
   intro L hL
   obtain rfl : L = #[true, true, true, true, true, true, true, true, true, true, true] := by simpa using hL
   simp only [unN_nodesC, unI_ints, unTr_cells]
   exact KW.goToR lay_ok Y3_ok 100 rfl () [(9, 9)] rfl rfl ⟨rfl, rfl, rfl, rfl, rfl, rfl, rfl, trivial⟩ (by simp) trivial ⟨rfl, trivial⟩
 rintro _ _
 have hC := make_ok (n := 3) (f := ex36) rfl ex36_make.1
 rw [ex36_mk] at hC
 have hL : covE ex36 ⟨[1], [3, 5], ex36C.tree⟩ = 0 /\ faultV ex36 ⟨[1], [3, 5], ex36C.tree⟩ = (4, 2) := ex36_less
 have hT : textL ex36C.tree 3 = [91, 48, 32, 91, 49, 32, 45, 49, 32, 91, 50, 32, 45, 50, 32, 49, 93, 93, 32, 48, 93] := ex36_text
 have hS : splE ex36C.tree 3 = 0 := ex36_tree.2
 rw [hT, hS, hC.1, hC.2, hL.1, hL.2]
 refine KW.goRet lay_ok Y3_ok 200 rfl rfl ?_ (by simp) trivial
 refine congrArg (fun b => SV.e (.c (.lit (.bool b)))) (?_ : _ = true)
 decide +kernel
end Go.Proofs.YtocnofkagckhkaaGreatDoor
end
section
attribute [local instance] Go.Sy.drwNo
namespace Go.Proofs.YtocnofkagckhkaaGreatDoor
open Go.Sy Go.Pu Go.Proofs.YtocnofkagckhkaaGreatDoor.Tr
theorem no_in : Tr.no.In := (Tr.in_iff _).2 ⟨by simp [inK, Tr.no, Tr.v], by simp [inK, Tr.no, Tr.r], fun i hi => absurd hi (Nat.not_lt_zero _)⟩
theorem lowB_lt (s : Int) : lowB s < 24 := by
 unfold lowB
 cases h : firstB (bit s) 24 with
 | none => decide
 | some i => exact (firstB_spec h).1
theorem growP_in (cuts paths : List Int) (hcl : cuts.length ≤ 1024) (hpl : paths.length ≤ 1024) : ∀ (f : Nat) (yes no c : Int), (growP cuts paths f yes no c).1.In
 | 0, _, _, _ => no_in
 | f + 1, yes, no, c => by
   rw [growP]
   by_cases hbig : 4096 < c + 1
   ·rw [if_pos hbig]; exact no_in
   rw [if_neg hbig]
   cases hy : inYes cuts yes with
   | some i => have := (inYes_some hy).1; exact lf_in (by simp only [inK]; omega)
   | none =>
   cases hp : inYes paths no with
   | some i => have := (inYes_some hp).1; exact lf_in (by simp only [inK]; omega)
   | none =>
   cases ho : offNo cuts no with
   | none => exact no_in
   | some i =>
     dsimp only
     split
     ·have := lowB_lt (iandNot .i64 (cuts.getD i 0) yes)
      exact two_in (by simp only [inK, nextV]; omega) (growP_in cuts paths hcl hpl f _ _ _) (growP_in cuts paths hcl hpl f _ _ _)
     ·exact no_in
theorem makeC_sm (f : FormP) : covSm (makeC f) := by
 by_cases h : makeE f = 0
 ·obtain ⟨h1, h2, h3, h4⟩ := makeE_zero h
  have hv := (formE_ok (pathE_ok h1).1).vars
  obtain ⟨n, hn⟩ := Int.eq_ofNat_of_zero_le (show 0 ≤ f.vars by omega)
  obtain ⟨_, hpf⟩ := path_facts h1 hn
  obtain ⟨f1, f2, f3⟩ := hpf h2
  have hfam := (hit_facts h1 hn h2 h3).2.1
  have e : makeC f = ⟨hitL (pathsL f), pathsL f, (makeG f).1⟩ := by rw [makeC, if_pos h]
  rw [e]
  exact ⟨growP_in _ _ hfam.len f1.1.len 25 0 0 0, Nat.le_trans hfam.len (by decide), Nat.le_trans f1.1.len (by decide)⟩
 ·have e : makeC f = ⟨[], [], .no⟩ := by rw [makeC, if_neg h]
  rw [e]
  exact ⟨no_in, Nat.zero_le _, Nat.zero_le _⟩
theorem unTr_nil : unTr 0 (.lit (.slice none 0 0)) 0 = Tr.no := Tr.ext rfl rfl rfl fun i hi => absurd hi (Nat.not_lt_zero _)
theorem isKs_nil : isKs (.lit (.slice none 0 0)) := ⟨rfl, rfl⟩
theorem fam_check {l : List Int} (h : Fam l) : checkE l = 0 := by
 have hl0 : listE l = 0 := listE_zero h.len h.val
 obtain ⟨a1, a2, _, _⟩ := anti_min h.val
 rw [h.min] at a1
 rw [checkE, if_pos hl0, if_pos a1.symm, if_pos (by rw [h.min])]
theorem make_facts {f : FormP} (h : makeE f = 0) : covE f (makeC f) = 0 /\ (faultV f (makeC f)).1 = 0 /\ checkE (makeC f).cuts = 0 := by
 obtain ⟨h1, h2, h3, h4⟩ := makeE_zero h
 have hv := (formE_ok (pathE_ok h1).1).vars
 obtain ⟨n, hn⟩ := Int.eq_ofNat_of_zero_le (show 0 ≤ f.vars by omega)
 have hfam := (hit_facts h1 hn h2 h3).2.1
 have e : makeC f = ⟨hitL (pathsL f), pathsL f, (makeG f).1⟩ := by rw [makeC, if_pos h]
 refine ⟨(make_ok hn h).1, (make_ok hn h).2, ?_⟩
 rw [e]
 exact fam_check hfam
def cov0 : CovP := ⟨[], [], .no⟩
end Go.Proofs.YtocnofkagckhkaaGreatDoor
end
section
attribute [local instance] Go.Sy.drwNo
namespace Go.Proofs.YtocnofkagckhkaaGreatDoor
open Go.Sy Go.Pu Go.Proofs.YtocnofkagckhkaaGreatDoor.Tr
theorem cov_facts {f : FormP} {c : CovP} (h : covE f c = 0) (ha : (faultV f c).1 = 0) : ∃ n : Nat, f.vars = n /\ n ≤ 24 /\ pathE f = 0 /\ formE f = 0 /\ splE c.tree f.vars = 0 /\ c.cuts.length ≤ 1024 /\ c.paths.length ≤ 1024 /\ (∀ x ∈ c.cuts, inN n x) := by
 obtain ⟨e1, e2, e3, e4⟩ := covE_zero h
 have h0 := (pathE_ok e1).1
 have hv := (formE_ok h0).vars
 obtain ⟨n, hn⟩ := Int.eq_ofNat_of_zero_le (show 0 ≤ f.vars by omega)
 have hn24 : n ≤ 24 := by omega
 rw [hn] at e2 e3
 exact ⟨n, hn, hn24, e1, h0, e4, (setE_zero hn24 e2).1, (setE_zero hn24 e3).1, (setE_zero hn24 e2).2⟩
end Go.Proofs.YtocnofkagckhkaaGreatDoor
end
section
namespace Go.Sy
variable [Drw]
section
variable {P : Program} {lay : Lay} {A A' B : St} {Q : Exit -> St -> Prop} {fns : Fns} {o : Nat -> Tag} {h : Nat -> Value} {tm : Array Value} {w : World}
def stepW (lay : Lay) (fns : Fns) (B : St) (ops : Array Oper) (op : Oper) (kp : Nat) : Option (SV × List (Nat × Res) × Prop) :=
 match stepZ lay fns B ops op kp with
 | some r => some r
 | none => match op.guard, op.op with
   | none, .build T ps => match evBuildH lay B T ps with
     | some (y, φ) => some (y, [], φ)
     | none => none
   | _, _ => none
theorem stepW_shape {B : St} {ops : Array Oper} {op : Oper} {kp : Nat} {y : SV} {rn : List (Nat × Res)} {φ : Prop} {d : Nat} (hd : op.dst = some d) (hc : stepW lay fns B ops op kp = some (y, rn, φ)) : rn = [] ∨ ∃ r, rn = [(d, r)] := by
 unfold stepW at hc
 split at hc
 ·rename_i r hz
  cases hc
  exact stepZ_shape hd hz
 ·split at hc
  ·split at hc
   ·simp only [Option.some.injEq, Prod.mk.injEq] at hc
    exact .inl hc.2.1.symm
   ·cases hc
  ·cases hc
theorem stepW_wp (hl : LayOk P lay) (hT : FnsOk P fns) {ops : Array Oper} {i : Nat} {op : Oper} (hi : ops[i]? = some op) {kp : Nat} {y : SV} {rn : List (Nat × Res)} {φ : Prop} {d : Nat} (hle : St.sub B A) (hs : Sat o h A tm w) (hd : op.dst = some d) (hlt : Nat.blt d A.n = true)
  (hc : stepW lay fns B ops op kp = some (y, rn, φ)) (hφ : φ) (hfr : rn ≠ [] -> freshB A d = true) {K : Act -> World -> Prop} {QQ : Exit -> Act -> World -> Prop}
  (hn : ∀ o2 h2 v w1, Sat o2 h2 ⟨A.n, (d, y) :: A.sl, rn ++ A.rs⟩ (tm.setIfInBounds d v) w1 -> Ext o w o2 w1 -> K ⟨tm.setIfInBounds d v, []⟩ w1) : wpOp P ops QQ i K ⟨tm, []⟩ w := by
 unfold stepW at hc
 split at hc
 ·rename_i r hz
  cases hc
  exact stepZ_wp hl hT hi hle hs hd hlt hz hφ hfr hn
 ·split at hc
  ·rename_i T ps hg ho
   split at hc
   ·rename_i y' φ' hb
    simp only [Option.some.injEq, Prod.mk.injEq] at hc
    obtain ⟨rfl, rfl, rfl⟩ := hc
    obtain ⟨v, hr, hv⟩ := evBuildH_ok hl (hs.subX hle) hb hφ
    have hrun : (execOp (evl tm) op).run P w = .ok (.value v) w := by
     simp only [execOp, ho]
     exact value_of hr
    have hlt' : d < A.n := by simpa [Nat.blt, Nat.succ_le_iff] using hlt
    unfold wpOp
    simp only [hi]
    rw [if_pos (by simp [Region.wanted, hg])]
    left
    unfold Oper.wp
    show op.upon P ⟨tm, []⟩ _ _ ((execOp (evl tm) op).run P w)
    rw [hrun]
    show K ((⟨tm, []⟩ : Act).put op.dst v) w
    have hput : (⟨tm, []⟩ : Act).put op.dst v = ⟨tm.setIfInBounds d v, []⟩ := by simp [Act.put, hd]
    rw [hput]
    refine hn o h v w ⟨?_, hs.tags, fun t x hl => ?_, hs.res⟩ (Ext.refl o w)
    ·simp [hs.size]
    ·simp only at hl
     rw [lk_cons] at hl
     split at hl
     ·rename_i e
      subst e
      cases hl
      have : (tm.setIfInBounds d v).getD d undef = v := by
       rw [Array.getD_eq_getD_getElem?, Array.getElem?_setIfInBounds_self]
       simp [hs.size, hlt']
      rw [this]; exact hv
     ·rename_i hne
      have : (tm.setIfInBounds d v).getD t undef = tm.getD t undef := by
       rw [Array.getD_eq_getD_getElem?, Array.getElem?_setIfInBounds_ne hne, <-Array.getD_eq_getD_getElem?]
      rw [this]; exact hs.slot t x hl
   ·cases hc
  ·cases hc
def drawW (lay : Lay) (fns : Fns) (ops : Array Oper) (rs0 rs1 : List (Nat × Res)) (n s i0 c i1 kp : Nat) : List Oper -> Nat -> List (Nat × SV) -> List (Nat × Res) -> List (Nat × Res) -> Prop -> Option (List Ent × List (Nat × Res) × Prop)
 | [], _, _, _, fw, φ => some ([], fw, φ)
 | op :: l, i, sl, acc, fw, φ => match Nat.beq i s with
   | true => match stepS lay ⟨n, pickS sl (looks ops op), pickR acc (looks ops op) ++ rs0⟩ i0 op with
     | some (ys, rn, ψ) => match drawW lay fns ops rs0 rs1 n s i0 c i1 kp l (i + 1) (ys ++ sl) acc rn (φ /\ ψ) with
       | some (ps, sp, χ) => some ((ys, []) :: ps, sp, χ)
       | none => none
     | none => none
   | false => match Nat.beq i c with
     | true => match stepS lay ⟨n, pickS sl (looks ops op), pickR acc (looks ops op) ++ rs0⟩ i1 op with
       | some ([(d, y)], (_, r1) :: _, ψ) => match drawW lay fns ops rs0 rs1 n s i0 c i1 kp l (i + 1) ((d, y) :: sl) (acc ++ [(d, r1)]) fw (φ /\ ψ) with
         | some (ps, sp, χ) => some (([(d, y)], [(d, r1)]) :: ps, sp, χ)
         | none => none
       | _ => none
     | false => match op.dst with
       | some d => match Nat.blt d n, stepW lay fns ⟨n, pickS sl (looks ops op), bif bindsOn ops s i then rs0 else (bif bindsOn ops i s && Nat.blt s i then fw ++ rs1 else rs1)⟩ ops op kp with
         | true, some (y, rn, ψ) => match drawW lay fns ops rs0 rs1 n s i0 c i1 kp l (i + 1) ((d, y) :: sl) (acc ++ rn) fw (φ /\ ψ) with
           | some (ps, sp, χ) => some (([(d, y)], rn) :: ps, sp, χ)
           | none => none
         | _, _ => none
       | none => none
theorem drawW_spec {ops : Array Oper} {rs0 rs1 : List (Nat × Res)} {n s i0 c i1 kp : Nat} : ∀ {l : List Oper} {k : Nat} {sl : List (Nat × SV)} {acc fw : List (Nat × Res)} {prs : List Ent} {sp : List (Nat × Res)} {φ φ' : Prop}, drawW lay fns ops rs0 rs1 n s i0 c i1 kp l k sl acc fw φ = some (prs, sp, φ') -> φ' -> φ /\ prs.length = l.length /\ (s < k ∨ k + l.length ≤ s -> sp = fw) /\
  ∀ (i : Nat) op, l[i]? = some op -> if k + i = s then ∃ ys ψ, prs[i]? = some (ys, []) /\ stepS lay ⟨n, pickS (slotsE (prs.take i) ++ sl) (looks ops op), pickR (acc ++ memE (prs.take i)) (looks ops op) ++ rs0⟩ i0 op = some (ys, sp, ψ) /\ ψ
    else if k + i = c then ∃ d y r1 ψ, prs[i]? = some ([(d, y)], [(d, r1)]) /\ stepS lay ⟨n, pickS (slotsE (prs.take i) ++ sl) (looks ops op), pickR (acc ++ memE (prs.take i)) (looks ops op) ++ rs0⟩ i1 op = some ([(d, y)], [(d, r1), (i1, .gone)], ψ) /\ ψ
    else ∃ d y rn ψ, prs[i]? = some ([(d, y)], rn) /\ op.dst = some d /\ Nat.blt d n = true /\ stepW lay fns ⟨n, pickS (slotsE (prs.take i) ++ sl) (looks ops op), bif bindsOn ops s (k + i) then rs0 else (bif bindsOn ops (k + i) s && Nat.blt s (k + i) then sp ++ rs1 else rs1)⟩ ops op kp = some (y, rn, ψ) /\ ψ
 | [], k, sl, acc, fw, prs, sp, φ, φ', h, hφ => by
   simp only [drawW, Option.some.injEq, Prod.mk.injEq] at h
   obtain ⟨rfl, rfl, rfl⟩ := h
   exact ⟨hφ, rfl, fun _ => rfl, by simp⟩
 | op :: l, k, sl, acc, fw, prs, sp, φ, φ', h, hφ => by
   simp only [drawW] at h
   split at h
   ·rename_i hks
    have hks := Nat.eq_of_beq_eq_true hks
    split at h
    ·rename_i ys rn ψ hs
     split at h
     ·rename_i ps sp' χ hrec
      simp only [Option.some.injEq, Prod.mk.injEq] at h
      obtain ⟨rfl, rfl, rfl⟩ := h
      obtain ⟨h1, h2, h3, h4⟩ := drawW_spec hrec hφ
      have e3 : sp' = rn := h3 (.inl (by omega))
      subst e3
      refine ⟨h1.1, by simp [h2], fun hor => absurd hor (by simp only [List.length_cons]; omega), fun i op' hi => ?_⟩
      cases i with
      | zero =>
        simp at hi; subst hi
        rw [if_pos (by omega)]
        exact ⟨ys, ψ, rfl, by simpa [slotsE, memE] using hs, h1.2⟩
      | succ i =>
        simp at hi
        have := h4 i op' hi
        rw [show k + (i + 1) = k + 1 + i by omega]
        rw [if_neg (by omega)] at this ⊢
        split
        ·rename_i e
         rw [if_pos e] at this
         obtain ⟨d', y', r1', ψ', g1, g2, g3⟩ := this
         refine ⟨d', y', r1', ψ', by simpa using g1, ?_, g3⟩
         rw [List.take_succ_cons, slotsE_cons, memE_cons, List.append_nil]; exact g2
        ·rename_i e
         rw [if_neg e] at this
         obtain ⟨d', y', rn', ψ', g1, g2, g3, g4, g5⟩ := this
         refine ⟨d', y', rn', ψ', by simpa using g1, g2, g3, ?_, g5⟩
         rw [List.take_succ_cons, slotsE_cons]; exact g4
     ·cases h
    ·cases h
   ·rename_i hks
    have hks : k ≠ s := fun e => by rw [e] at hks; simp at hks
    split at h
    ·rename_i hkc
     have hkc := Nat.eq_of_beq_eq_true hkc
     split at h
     ·rename_i d y r0 r1 tl ψ hs
      split at h
      ·rename_i ps sp' χ hrec
       simp only [Option.some.injEq, Prod.mk.injEq] at h
       obtain ⟨rfl, rfl, rfl⟩ := h
       obtain ⟨h1, h2, h3, h4⟩ := drawW_spec hrec hφ
       refine ⟨h1.1, by simp [h2], fun hor => h3 (by simp only [List.length_cons] at hor; omega), fun i op' hi => ?_⟩
       cases i with
       | zero =>
         simp at hi; subst hi
         rw [if_neg (by omega), if_pos (by omega)]
         have hs0 := hs
         obtain ⟨_, ⟨d', r1', _, e1, e2, _⟩ | ⟨r1', _, e1, _⟩⟩ := stepS_shape hs0
         ·cases e1; cases e2
          exact ⟨_, _, r1, ψ, rfl, by simpa [slotsE, memE] using hs, h1.2⟩
         ·cases e1
       | succ i =>
         simp at hi
         have := h4 i op' hi
         rw [show k + (i + 1) = k + 1 + i by omega]
         split
         ·rename_i e
          rw [if_pos e] at this
          obtain ⟨ys', ψ', g1, g2, g3⟩ := this
          refine ⟨ys', ψ', by simpa using g1, ?_, g3⟩
          rw [List.take_succ_cons, slotsE_cons, memE_cons]; exact g2
         ·rename_i e
          rw [if_neg e] at this
          rw [if_neg (by omega)] at this ⊢
          obtain ⟨d', y', rn', ψ', g1, g2, g3, g4, g5⟩ := this
          refine ⟨d', y', rn', ψ', by simpa using g1, g2, g3, ?_, g5⟩
          rw [List.take_succ_cons, slotsE_cons]; exact g4
      ·cases h
     ·cases h
    rename_i hkc
    have hkc : k ≠ c := fun e => by rw [e] at hkc; simp at hkc
    split at h
    ·rename_i d hd
     split at h
     ·rename_i y rn ψ hlt hs
      split at h
      ·rename_i ps sp' χ hrec
       simp only [Option.some.injEq, Prod.mk.injEq] at h
       obtain ⟨rfl, rfl, rfl⟩ := h
       obtain ⟨h1, h2, h3, h4⟩ := drawW_spec hrec hφ
       refine ⟨h1.1, by simp [h2], fun hor => h3 (by simp only [List.length_cons] at hor; omega), fun i op' hi => ?_⟩
       cases i with
       | zero =>
         simp at hi; subst hi
         rw [if_neg (by omega), if_neg (by omega)]
         refine ⟨d, y, rn, ψ, by simp, hd, hlt, ?_, h1.2⟩
         have e5 : (bif bindsOn ops k s && Nat.blt s k then fw ++ rs1 else rs1) = (bif bindsOn ops k s && Nat.blt s k then sp' ++ rs1 else rs1) := by
          cases hb : Nat.blt s k with
          | false => simp
          | true => rw [h3 (.inl (by have : s < k := by simpa [Nat.blt, Nat.succ_le_iff] using hb
                                     omega))]
         rw [e5] at hs
         simpa [slotsE] using hs
       | succ i =>
         simp at hi
         have := h4 i op' hi
         rw [show k + (i + 1) = k + 1 + i by omega]
         split
         ·rename_i e
          rw [if_pos e] at this
          obtain ⟨ys', ψ', g1, g2, g3⟩ := this
          refine ⟨ys', ψ', by simpa using g1, ?_, g3⟩
          rw [List.take_succ_cons, slotsE_cons, memE_cons]; exact g2
         ·rename_i e
          rw [if_neg e] at this
          split
          ·rename_i e2
           rw [if_pos e2] at this
           obtain ⟨d', y', r1', ψ', g1, g2, g3⟩ := this
           refine ⟨d', y', r1', ψ', by simpa using g1, ?_, g3⟩
           rw [List.take_succ_cons, slotsE_cons, memE_cons]; exact g2
          ·rename_i e2
           rw [if_neg e2] at this
           obtain ⟨d', y', rn', ψ', g1, g2, g3, g4, g5⟩ := this
           refine ⟨d', y', rn', ψ', by simpa using g1, g2, g3, ?_, g5⟩
           rw [List.take_succ_cons, slotsE_cons]; exact g4
      ·cases h
     ·cases h
    ·cases h
def specB (ops : Array Oper) (rs : List (Nat × Res)) (n s i0 c i1 : Nat) : Bool :=
 (match lk rs i1 with | some _ => false | none => true) && (layBefore ops c i1 n && ((match ops[s]? with | some op => !memN i1 (looks ops op) | none => true) && (!Nat.beq c s && ((Nat.ble n c || bindsOn ops s c) && !Nat.beq i0 i1))))
theorem specB_ok {ops : Array Oper} {rs : List (Nat × Res)} {n s i0 c i1 : Nat} (h : specB ops rs n s i0 c i1 = true) : lk rs i1 = none /\ layBefore ops c i1 n = true /\ (∀ op, ops[s]? = some op -> memN i1 (looks ops op) = false) /\ (c ≠ s /\ (c < n -> bindsOn ops s c = true)) /\ i0 ≠ i1 := by
 simp only [specB, Bool.and_eq_true, Bool.or_eq_true, Bool.not_eq_true'] at h
 obtain ⟨h1, h2, h3, h4, h5, h6⟩ := h
 refine ⟨?_, h2, fun op ho => ?_, ⟨fun e => ?_, fun hlt => ?_⟩, fun e => ?_⟩
 ·cases hl : lk rs i1 with
  | none => rfl
  | some r => rw [hl] at h1; cases h1
 ·rw [ho] at h3; simpa using h3
 ·rw [e] at h4; simp at h4
 ·rcases h5 with h5 | h5
  ·have := Nat.le_of_ble_eq_true h5; omega
  ·exact h5
 ·rw [e] at h6; simp at h6
theorem woB {X base : List (Nat × Res)} {i1 t : Nat} (hne : t ≠ i1) : lk (without i1 X ++ base) t = lk (X ++ base) t := by
 induction X with
 | nil => rfl
 | cons p X ih =>
   unfold without at ih ⊢
   rw [List.filter_cons]
   split
   ·rw [List.cons_append, List.cons_append, lk_cons, lk_cons, ih]
   ·rename_i hp
    have e : p.1 = i1 := by
     simp only [Bool.not_eq_true', Bool.not_eq_false] at hp
     exact Nat.eq_of_beq_eq_true (by simpa using hp)
    rw [ih, List.cons_append, lk_cons, if_neg (fun h => hne (by rw [<-h, e]))]
theorem woA {X base : List (Nat × Res)} {i1 t : Nat} {r : Res} (h0 : lk base i1 = none) (h : lk (without i1 X ++ base) t = some r) : t ≠ i1 /\ lk (X ++ base) t = some r := by
 have hne : t ≠ i1 := fun e => by
  subst e
  rw [lkA_none fun r' hm => ?_] at h
  ·rw [h0] at h; cases h
  ·have := (List.mem_filter.1 hm).2
   simp at this
 exact ⟨hne, by rw [<-woB hne]; exact h⟩
theorem KW.drawnW (hl : LayOk P lay) (hT : FnsOk P fns) (hm : P.follows .mixedOrders = true) {id : Nat} {ops : Array Oper} {k : List K} {φ : Prop} {n : Nat} (s i0 c i1 kp : Nat) (hsz0 : Nat.blt n ops.size = true) (hdep : depOk ops = true) (htl : tailsOk ops n = true) (hat : (match lk A.rs i0 with | some _ => true | none => layBefore ops s i0 n) = true) (hst : specB ops A.rs n s i0 c i1 = true)
  {prs : List Ent} {sp : List (Nat × Res)} (hg : drawW lay fns ops A.rs (without i0 A.rs) A.n s i0 c i1 kp (takeN n ops.toList) 0 A.sl [] [] True = some (prs, sp, φ)) (hfr : freshV1 ops prs sp A s i0 0 prs = true) (hφ : φ)
  (hn : KW P (.ops ops (dropN n ops.toList) :: k) .normal ⟨A.n, slotsE prs ++ A.sl, sp ++ (without i1 (memE prs) ++ A.rs)⟩ Q) : KW P (.code (.region id ops true) :: k) .normal A Q := by
 rw [takeN_eq] at hg
 rw [dropN_eq] at hn
 have hsize : n < ops.size := by simpa [Nat.blt, Nat.succ_le_iff] using hsz0
 obtain ⟨_, hlen, hspn, hprs⟩ := drawW_spec hg hφ
 obtain ⟨hi1, hl1, hno, hsc, hne01⟩ := specB_ok hst
 have dep := depOk_ok hdep
 have hlen' : prs.length = n := by simp only [List.length_take, Array.length_toList] at hlen; omega
 have hsp0 : n ≤ s -> sp = [] := fun h => hspn (by simp only [List.length_take, Array.length_toList]; omega)
 have hstep := tailsOk_ok htl
 have hop : ∀ (i : Nat) op, i < n -> ops[i]? = some op -> if i = s then ∃ ys ψ, prs[i]? = some (ys, []) /\ stepS lay ⟨A.n, pickS (slotsE (prs.take i) ++ A.sl) (looks ops op), pickR (memE (prs.take i)) (looks ops op) ++ A.rs⟩ i0 op = some (ys, sp, ψ) /\ ψ
   else if i = c then ∃ d y r1 ψ, prs[i]? = some ([(d, y)], [(d, r1)]) /\ stepS lay ⟨A.n, pickS (slotsE (prs.take i) ++ A.sl) (looks ops op), pickR (memE (prs.take i)) (looks ops op) ++ A.rs⟩ i1 op = some ([(d, y)], [(d, r1), (i1, .gone)], ψ) /\ ψ
   else ∃ d y rn ψ, prs[i]? = some ([(d, y)], rn) /\ op.dst = some d /\ Nat.blt d A.n = true /\ stepW lay fns ⟨A.n, pickS (slotsE (prs.take i) ++ A.sl) (looks ops op), bif bindsOn ops s i then A.rs else (bif bindsOn ops i s && Nat.blt s i then sp ++ without i0 A.rs else without i0 A.rs)⟩ ops op kp = some (y, rn, ψ) /\ ψ :=
  fun i op hin hi => by
   have := hprs i op (by rw [List.getElem?_take, if_pos hin]; simpa using hi)
   simpa only [Nat.zero_add, List.nil_append] using this
 -- what each lays
 have hent : ∀ (j : Nat) (p : Ent), prs[j]? = some p -> ∃ op, ops[j]? = some op /\ j < n /\ (∀ t x, (t, x) ∈ p.1 -> op.dst = some t /\ p.1 = [(t, x)]) /\ ∀ t r, (t, r) ∈ p.2 -> op.dst = some t /\ j ≠ s /\ ∃ y, p.1 = [(t, y)] := fun j p hj => by
  have hltn : j < n := by rw [<-hlen']; exact (List.getElem?_eq_some_iff.1 hj).1
  have hlt : j < ops.size := by omega
  refine ⟨ops[j], Array.getElem?_eq_getElem hlt, hltn, ?_⟩
  have h1 := hop j ops[j] hltn (Array.getElem?_eq_getElem hlt)
  split at h1
  ·rename_i e
   obtain ⟨ys, ψ, g1, g2, g3⟩ := h1
   rw [hj] at g1
   cases g1
   obtain ⟨_, ⟨d, r1, hd, rfl, _⟩ | ⟨r1, hd, rfl, _⟩⟩ := stepS_shape g2
   ·refine ⟨fun t x hm => ?_, fun t r hm => (by cases hm)⟩
    simp only [List.mem_singleton, Prod.mk.injEq] at hm
    obtain ⟨rfl, rfl⟩ := hm
    exact ⟨hd, rfl⟩
   ·exact ⟨fun t x hm => (by cases hm), fun t r hm => (by cases hm)⟩
  ·rename_i e
   split at h1
   ·obtain ⟨d, y, r1, ψ, g1, g2, g3⟩ := h1
    rw [hj] at g1
    cases g1
    have hd : (ops[j]).dst = some d := by
     obtain ⟨_, ⟨d', r1', hd, e1, _⟩ | ⟨r1', _, e1, _⟩⟩ := stepS_shape g2
     ·cases e1; exact hd
     ·cases e1
    refine ⟨fun t x hm => ?_, fun t r hm => ?_⟩
    ·simp only [List.mem_singleton, Prod.mk.injEq] at hm
     obtain ⟨rfl, rfl⟩ := hm
     exact ⟨hd, rfl⟩
    ·simp only [List.mem_singleton, Prod.mk.injEq] at hm
     obtain ⟨rfl, rfl⟩ := hm
     exact ⟨hd, e, y, rfl⟩
   obtain ⟨d, y, rn, ψ, g1, g2, g3, g4, g5⟩ := h1
   rw [hj] at g1
   cases g1
   refine ⟨fun t x hm => ?_, fun t r hm => ?_⟩
   ·simp only [List.mem_singleton, Prod.mk.injEq] at hm
    obtain ⟨rfl, rfl⟩ := hm
    exact ⟨g2, rfl⟩
   ·rcases stepW_shape g2 g4 with e' | ⟨r', e'⟩
    ·rw [e'] at hm; cases hm
    ·rw [e'] at hm
     simp only [List.mem_singleton, Prod.mk.injEq] at hm
     obtain ⟨rfl, rfl⟩ := hm
     exact ⟨g2, e, y, rfl⟩
 have huS : ∀ (j j' : Nat) (p p' : Ent) (t : Nat) (x x' : SV), prs[j]? = some p -> prs[j']? = some p' -> (t, x) ∈ p.1 -> (t, x') ∈ p'.1 -> j = j' /\ x' = x := fun j j' p p' t x x' hj hj' hm hm' => by
  obtain ⟨o1, h1, _, h2, _⟩ := hent j p hj
  obtain ⟨o2, h3, _, h4, _⟩ := hent j' p' hj'
  have e := dep.dist j j' o1 o2 t h1 h3 (h2 t x hm).1 (h4 t x' hm').1
  subst e
  rw [hj] at hj'
  cases hj'
  refine ⟨rfl, ?_⟩
  rw [(h2 t x hm).2] at hm'
  simpa using hm'
 have hapS : ApartL (prs.map (·.1)) := by
  intro i j q q' hij hi hj t r r' hm hm'
  obtain ⟨p, h1, rfl⟩ := mapGet hi
  obtain ⟨p', h2, rfl⟩ := mapGet hj
  exact hij (huS i j p p' t r r' h1 h2 hm hm').1
 have huM : ∀ (j j' : Nat) (p p' : Ent) (t : Nat) (x x' : Res), prs[j]? = some p -> prs[j']? = some p' -> (t, x) ∈ p.2 -> (t, x') ∈ p'.2 -> j = j' := fun j j' p p' t x x' hj hj' hm hm' => by
  obtain ⟨o1, h1, _, _, h2⟩ := hent j p hj
  obtain ⟨o2, h3, _, _, h4⟩ := hent j' p' hj'
  exact dep.dist j j' o1 o2 t h1 h3 (h2 t x hm).1 (h4 t x' hm').1
 have hapM : ApartL (prs.map (·.2)) := by
  intro i j q q' hij hi hj t r r' hm hm'
  obtain ⟨p, h1, rfl⟩ := mapGet hi
  obtain ⟨p', h2, rfl⟩ := mapGet hj
  exact hij (huM i j p p' t r r' h1 h2 hm hm')
 have hnew : ∀ (j : Nat) (p : Ent) (t : Nat) (r : Res), prs[j]? = some p -> (t, r) ∈ p.2 -> freshE ops t j 0 prs = true /\ (freshS t A.sl = true /\ freshR t A.rs = true) /\ (t = i0 ∨ freshR t sp = true) := fun j p t r hj hm => by
  obtain ⟨op, h1, h2, h3, h4⟩ := hent j p hj
  obtain ⟨h5, h6, y, h7⟩ := h4 t r hm
  have e : p = ((t, y) :: [], p.2) := Prod.ext h7 rfl
  have := freshV1_ok hfr j t y [] p.2 (by rw [hj, <-e]) (.inr fun e' => by rw [e'] at hm; cases hm)
  rw [Nat.zero_add] at this
  exact ⟨this.1, this.2.1, this.2.2 h6⟩
 -- the special number, laid here, is laid before it is looked at
 have hi0b : ∀ (j : Nat) (p : Ent) (r : Res), prs[j]? = some p -> (i0, r) ∈ p.2 -> bindsOn ops s j = true := fun j p r hj hm => by
  obtain ⟨op, h1, h2, h3, h4⟩ := hent j p hj
  obtain ⟨h5, h6, _⟩ := h4 i0 r hm
  have hf := (hnew j p i0 r hj hm).2.1.2
  have hno : lk A.rs i0 = none := by
   cases hlk : lk A.rs i0 with
   | none => rfl
   | some r' => exact absurd rfl (freshR_mem hf (lk_mem hlk)).1
  rw [hno] at hat
  exact layBefore_ok hat h2 h1 h5 h6
 have hi1b : ∀ (j : Nat) (p : Ent) (r : Res), prs[j]? = some p -> (i1, r) ∈ p.2 -> j ≠ c -> bindsOn ops c j = true := fun j p r hj hm hne => by
  obtain ⟨op, h1, h2, h3, h4⟩ := hent j p hj
  obtain ⟨h5, h6, _⟩ := h4 i1 r hm
  exact layBefore_ok hl1 h2 h1 h5 hne
 let SL : (Nat -> Bool) -> List (Nat × SV) := fun ls => pickL ls 0 (prs.map (·.1)) ++ A.sl
 let CL : (Nat -> Bool) -> List (Nat × Res) := fun ls => if ls c then without i1 (pickL ls 0 (prs.map (·.2))) else pickL ls 0 (prs.map (·.2))
 let RS : (Nat -> Bool) -> List (Nat × Res) := fun ls => (if ls s then sp else []) ++ (CL ls ++ A.rs)
 have hSLin : ∀ (ls : Nat -> Bool) (j : Nat) (p : Ent) (t : Nat) (x : SV), prs[j]? = some p -> (t, x) ∈ p.1 -> ls j = true -> lk (SL ls) t = some x := fun ls j p t x hj hm hls => by
  refine pickL_in (k := 0) (i := j) (p := p.1) (by rw [List.getElem?_map, hj]; rfl) (by simpa using hls) ?_ fun j' q hne hq r' hm' => ?_
  ·obtain ⟨r, hr⟩ := lkA_of hm
   rw [hr, (huS j j p p t x r hj hj hm (lkM hr)).2]
  ·obtain ⟨p', h2, rfl⟩ := mapGet hq
   exact hne (huS j j' p p' t x r' hj h2 hm hm').1.symm
 have hSLout : ∀ (ls : Nat -> Bool) (t : Nat), (∀ (j : Nat) (p : Ent) (x : SV), prs[j]? = some p -> ls j = true -> (t, x) ∉ p.1) -> lk (SL ls) t = lk A.sl t := fun ls t hno =>
  pickL_out fun j q hq hls r hm => by
   obtain ⟨p', h2, rfl⟩ := mapGet hq
   exact hno j p' r h2 hls hm
 have hPMin : ∀ (ls : Nat -> Bool) (j : Nat) (p : Ent) (t : Nat) (x : Res), prs[j]? = some p -> lk p.2 t = some x -> ls j = true -> lk (pickL ls 0 (prs.map (·.2)) ++ A.rs) t = some x := fun ls j p t x hj hm hls => by
  refine pickL_in (k := 0) (i := j) (p := p.2) (by rw [List.getElem?_map, hj]; rfl) (by simpa using hls) hm fun j' q hne hq r' hm' => ?_
  obtain ⟨p', h2, rfl⟩ := mapGet hq
  exact hne (huM j j' p p' t x r' hj h2 (lkM hm) hm').symm
 have hPMout : ∀ (ls : Nat -> Bool) (t : Nat), (∀ (j : Nat) (p : Ent) (x : Res), prs[j]? = some p -> ls j = true -> (t, x) ∉ p.2) -> lk (pickL ls 0 (prs.map (·.2)) ++ A.rs) t = lk A.rs t := fun ls t hno =>
  pickL_out fun j q hq hls r hm => by
   obtain ⟨p', h2, rfl⟩ := mapGet hq
   exact hno j p' r h2 hls hm
 have hPMbase : ∀ (ls : Nat -> Bool) (t : Nat) (r : Res), lk A.rs t = some r -> lk (pickL ls 0 (prs.map (·.2)) ++ A.rs) t = some r := fun ls t r hr => by
  rw [hPMout ls t fun j p x hj _ hm => ?_]
  ·exact hr
  ·exact (freshR_mem (hnew j p t x hj hm).2.1.2 (lk_mem hr)).1 rfl
 have hF1 : ∀ (ls : Nat -> Bool) (t : Nat) (r : Res), lk (CL ls ++ A.rs) t = some r -> lk (pickL ls 0 (prs.map (·.2)) ++ A.rs) t = some r := fun ls t r hr => by
  simp only [CL] at hr
  split at hr
  ·exact (woA hi1 hr).2
  ·exact hr
 have hF2 : ∀ (ls : Nat -> Bool) (t : Nat) (r : Res), (ls c = true -> t ≠ i1) -> lk (pickL ls 0 (prs.map (·.2)) ++ A.rs) t = some r -> lk (CL ls ++ A.rs) t = some r := fun ls t r hne hr => by
  simp only [CL]
  split
  ·rename_i e; rw [woB (hne e)]; exact hr
  ·exact hr
 have hF3 : ∀ (ls : Nat -> Bool) (t : Nat) (r : Res), ls c = true -> lk (CL ls ++ A.rs) t = some r -> t ≠ i1 := fun ls t r hc hr => by
  simp only [CL, hc, if_true] at hr
  exact (woA hi1 hr).1
 have hF4 : ∀ (ls : Nat -> Bool) (t : Nat) (r : Res), (t, r) ∈ CL ls -> (t, r) ∈ pickL ls 0 (prs.map (·.2)) := fun ls t r hm => by
  simp only [CL] at hm
  split at hm
  ·exact (List.mem_filter.1 hm).1
  ·exact hm
 have hCbase : ∀ (ls : Nat -> Bool) (t : Nat) (r : Res), lk A.rs t = some r -> lk (CL ls ++ A.rs) t = some r := fun ls t r hr =>
  hF2 ls t r (fun _ e => by rw [e, hi1] at hr; cases hr) (hPMbase ls t r hr)
 intro o h tm w hs
 show (Code.region id ops true).wp P (kq P (lift Q o w) k) ⟨tm, []⟩ w
 refine wp_region_any hm ?_
 have main : ∀ (fuel : Nat) (listed : Array Bool) (o' : Nat -> Tag) (h' : Nat -> Value) (tm' : Array Value) (w' : World), listed.size = ops.size -> (∀ j, n ≤ j -> listed.getD j false = false) -> cntU (fun j => listed.getD j false) n + (ops.size - n) ≤ fuel ->
   (∀ (i : Nat) oi, ops[i]? = some oi -> listed.getD i false = true -> ∀ e ∈ oi.after, Region.binds .any e = true -> listed.getD e.on false = true) ->
   Sat o' h' ⟨A.n, SL (fun j => listed.getD j false), RS (fun j => listed.getD j false)⟩ tm' w' -> Ext o w o' w' -> wpAny P .any ops (kq P (lift Q o w) k) fuel listed ⟨tm', []⟩ w' := by
  intro fuel
  -- all have come up
  have full : ∀ (listed : Array Bool) (o' : Nat -> Tag) (h' : Nat -> Value) (tm' : Array Value) (w' : World), (∀ j, j < n -> listed.getD j false = true) ->
    Sat o' h' ⟨A.n, SL (fun j => listed.getD j false), RS (fun j => listed.getD j false)⟩ tm' w' -> Ext o w o' w' -> kq P (lift Q o w) (.ops ops (ops.toList.drop n) :: k) .normal ⟨tm', []⟩ w' := by
   intro listed o' h' tm' w' hall hs' hx
   refine kq_mono (lift_trans hx) (.ops ops (ops.toList.drop n) :: k) .normal _ w' (hn o' h' tm' w' ?_)
   refine ⟨hs'.size, hs'.tags, fun t x hl => hs'.slot t x ?_, fun i r hl => hs'.res i r ?_⟩
   ·simp only at hl ⊢
    by_cases hex : ∃ (j : Nat) (p : Ent) (y : SV), prs[j]? = some p /\ (t, y) ∈ p.1
    ·obtain ⟨j, p, y, hj, hy⟩ := hex
     obtain ⟨_, _, hjn, _⟩ := hent j p hj
     rw [lkU (slotsE_mem.2 ⟨j, p, hj, hy⟩) fun y' hy' => (by
      obtain ⟨j', p', hj', hm'⟩ := slotsE_mem.1 hy'
      exact (huS j j' p p' t y y' hj hj' hy hm').2)] at hl
     cases hl
     exact hSLin _ j p t _ hj hy (by simpa using hall j hjn)
    ·rw [lkA_none fun y hy => (by
      obtain ⟨j', p', hj', hm'⟩ := slotsE_mem.1 hy
      exact hex ⟨j', p', y, hj', hm'⟩)] at hl
     rw [hSLout _ t fun j p x hj _ hm => hex ⟨j, p, x, hj, hm⟩]
     exact hl
   ·simp only at hl ⊢
    have e1 : (if listed.getD s false then sp else []) = sp := by
     by_cases hsn : s < n
     ·rw [hall s hsn]; rfl
     ·rw [hsp0 (by omega)]; split <;> rfl
    have e2 : pickL (fun j => listed.getD j false) 0 (prs.map (·.2)) = memE prs := pickL_all fun j hj => by
     simp only [List.length_map, hlen'] at hj
     simpa using hall j hj
    simp only [RS, e1]
    by_cases hmem : ∃ r', (i, r') ∈ sp
    ·obtain ⟨r', hmem⟩ := hmem
     obtain ⟨r2, h2⟩ := lkA_of hmem
     rw [lkA_some h2] at hl ⊢
     exact hl
    ·rw [lkA_none fun r' h' => hmem ⟨r', h'⟩] at hl ⊢
     obtain ⟨g1, g2⟩ := woA hi1 hl
     exact hF2 (fun j => listed.getD j false) i r (fun _ => g1) (by rw [e2]; exact g2)
  have done : ∀ (listed : Array Bool), listed.size = ops.size -> Region.ready .any ops listed = [] -> ∀ j, j < ops.size -> listed.getD j false = true := by
   intro listed hsz hr j
   induction j using Nat.strongRecOn with
   | ind j ih =>
     intro hj
     cases hlj : listed.getD j false with
     | true => rfl
     | false =>
       exfalso
       have : j ∈ Region.ready .any ops listed := by
        rw [mem_ready]
        refine ⟨?_, ops[j], Array.getElem?_eq_getElem hj, fun e he hb => ?_⟩
        ·rw [Array.getD_eq_getD_getElem?] at hlj ⊢
         rw [Array.getElem?_eq_getElem (by omega)] at hlj ⊢
         exact hlj
        ·have hlt := dep.below j ops[j] (Array.getElem?_eq_getElem hj) e he hb
         exact ih e.on hlt (by omega)
       rw [hr] at this
       cases this
  induction fuel with
  | zero =>
    intro listed o' h' tm' w' hsz hnl hc
    omega
  | succ fuel ih =>
    intro listed o' h' tm' w' hsz hnl hc hcl hs' hx
    refine ⟨fun hr => (by have := done listed hsz hr n (by omega); rw [hnl n (Nat.le_refl n)] at this; cases this), fun i hi => ?_⟩
    by_cases hin : n ≤ i
    ·obtain ⟨hun, op, hop', haft⟩ := mem_ready.1 hi
     have hlt : i < ops.size := (Array.getElem?_eq_some_iff.1 hop').1
     have hall : ∀ d j, j < i -> i ≤ j + d -> listed.getD j false = true := by
      intro d
      induction d with
      | zero => intro j h1 h2; omega
      | succ d ihd =>
        intro j h1 h2
        obtain ⟨q, oq, h3, h3', h4, e, h5, h6, h7⟩ := hstep i hin hlt j h1
        by_cases hqi : q = i
        ·subst hqi
         rw [hop'] at h4
         cases h4
         rw [<-h7]; exact haft e h5 h6
        ·have := ihd q (by omega) (by omega)
         rw [<-h7]; exact hcl q oq h4 this e h5 h6
     have hi0 : i = n := by
      rcases Nat.lt_or_ge n i with h | h
      ·have := hall i n h (by omega)
       rw [hnl n (Nat.le_refl n)] at this; cases this
      ·omega
     subst hi0
     have hf := full listed o' h' tm' w' (fun j hj => hall i j hj (by omega)) hs' hx
     exact (tailSeq hstep dep.below (ops.size - i) i (fuel + 1) listed ⟨tm', []⟩ w' (by omega) (Nat.le_refl _) hsz (fun j hj => hall i j hj (by omega)) hnl (by omega) hf).2 i hi
    obtain ⟨hun, op, hop', haft⟩ := mem_ready.1 hi
    have hlt : i < ops.size := (Array.getElem?_eq_some_iff.1 hop').1
    have hun' : listed.getD i false = false := by
     rw [Array.getD_eq_getD_getElem?, Array.getElem?_eq_getElem (by omega)] at hun ⊢
     exact hun
    have h1 := hop i op (by omega) hop'
    -- what has to come before the special one has come, once that one has
    have hsb : listed.getD s false = true -> ∀ j, bindsOn ops s j = true -> listed.getD j false = true := fun hls j hb => by
     exact waitsFor_ok (ls := fun j => listed.getD j false) hcl hb hls
    have hsl : ∀ t x, lk (pickS (slotsE (prs.take i) ++ A.sl) (looks ops op)) t = some x -> lk (SL (fun j => listed.getD j false)) t = some x := fun t x hl => by
     obtain ⟨e1, hm⟩ := pickS_lk hl
     by_cases hex : ∃ (j : Nat) (p : Ent) (y : SV), prs[j]? = some p /\ (t, y) ∈ p.1
     ·obtain ⟨j, p, y', hj, hy⟩ := hex
      obtain ⟨oj, hoj, _, hdj, _⟩ := hent j p hj
      rcases dep.look i j op oj t hop' hoj (hdj t y' hy).1 hm with ⟨hji, e, he, hb, heq⟩ | ⟨hij, e, he, hb, heq⟩
      ·have hlj : listed.getD j false = true := by rw [<-heq]; exact haft e he hb
       rw [lkU (slotsE_mem.2 ⟨j, p, by rw [List.getElem?_take, if_pos hji]; exact hj, hy⟩) fun y'' hy'' => (by
        obtain ⟨j', p', hj', hm'⟩ := slotsE_mem.1 hy''
        rw [List.getElem?_take] at hj'
        split at hj'
        ·exact (huS j j' p p' t y' y'' hj hj' hy hm').2
        ·cases hj')] at e1
       cases e1
       exact hSLin _ j p t _ hj hy (by simpa using hlj)
      ·have hlj : listed.getD j false = false := by
        cases hlj : listed.getD j false with
        | false => rfl
        | true =>
          have := hcl j oj hoj hlj e he hb
          rw [heq, hun'] at this
          cases this
       rw [lkA_none fun y'' hy'' => (by
        obtain ⟨j', p', hj', hm'⟩ := slotsE_mem.1 hy''
        rw [List.getElem?_take] at hj'
        split at hj'
        ·have := (huS j j' p p' t y' y'' hj hj' hy hm').1
         omega
        ·cases hj')] at e1
       rw [hSLout _ t fun j' p' x' hj' hls hm' => (by
        have := (huS j j' p p' t y' x' hj hj' hy hm').1
        subst this
        rw [hlj] at hls; cases hls)]
       exact e1
     ·rw [lkA_none fun y'' hy'' => (by
       obtain ⟨j', p', hj', hm'⟩ := slotsE_mem.1 hy''
       rw [List.getElem?_take] at hj'
       split at hj'
       ·exact hex ⟨j', p', y'', hj', hm'⟩
       ·cases hj')] at e1
      rw [hSLout _ t fun j' p' x' hj' hls hm' => hex ⟨j', p', x', hj', hm'⟩]
      exact e1
    have hget : ∀ j, (listed.setIfInBounds i true).getD j false = if j = i then true else listed.getD j false := fun j => by
     by_cases hji : j = i
     ·subst hji
      rw [if_pos rfl, Array.getD_eq_getD_getElem?, Array.getElem?_setIfInBounds_self]
      simp [hsz, hlt]
     ·rw [if_neg hji, getD_set_ne false (Ne.symm hji)]
    have next : ∀ {ys : List (Nat × SV)} {rn sp' : List (Nat × Res)}, prs[i]? = some (ys, rn) -> (∀ t r, lk (RS (fun j => (listed.setIfInBounds i true).getD j false)) t = some r -> lk (sp' ++ RS (fun j => listed.getD j false)) t = some r) ->
      ∀ o2 h2 tm2 w1, Sat o2 h2 ⟨A.n, ys ++ SL (fun j => listed.getD j false), sp' ++ RS (fun j => listed.getD j false)⟩ tm2 w1 -> Ext o' w' o2 w1 -> wpAny P .any ops (kq P (lift Q o w) k) fuel (listed.setIfInBounds i true) ⟨tm2, []⟩ w1 := fun {ys rn sp'} hpi hrs o2 h2 tm2 w1 hs2 hext => by
     refine ih (listed.setIfInBounds i true) o2 h2 _ w1 (by simp [hsz]) (fun j hj => by rw [hget, if_neg (by omega)]; exact hnl j hj) ?_ ?_ ⟨hs2.size, hs2.tags, fun t x hlk => hs2.slot t x ?_, fun t r hlk => hs2.res t r (hrs t r hlk)⟩ (hx.trans hext)
     ·have := cntU_upd (ls := fun j => listed.getD j false) (ls' := fun j => (listed.setIfInBounds i true).getD j false) (i := i) (n := n) (by omega) hun' (by simp [hget]) fun j hj => by simp [hget, hj]
      omega
     ·intro j oj hoj hlj e he hb
      rw [hget] at hlj ⊢
      by_cases he' : e.on = i
      ·rw [if_pos he']
      ·rw [if_neg he']
       by_cases hji : j = i
       ·subst hji
        rw [hop'] at hoj
        cases hoj
        exact haft e he hb
       ·rw [if_neg hji] at hlj
        exact hcl j oj hoj hlj e he hb
     ·exact pickL_step (p := ys) hapS (by rw [List.getElem?_map, hpi]; rfl) (by simp [hget]) (fun j hj => by simp [hget, hj]) hlk
    -- what a special one looks at is there
    have hsee : ∀ {t : Nat} {r : Res}, (∀ r', (t, r') ∈ pickR (memE (prs.take i)) (looks ops op) -> listed.getD c false = true -> t ≠ i1) -> lk (pickR (memE (prs.take i)) (looks ops op) ++ A.rs) t = some r -> lk (CL (fun j => listed.getD j false) ++ A.rs) t = some r := fun {t r} hti hr => by
      by_cases hm : ∃ r', (t, r') ∈ pickR (memE (prs.take i)) (looks ops op)
      ·obtain ⟨r', hm⟩ := hm
       have hti := hti r' hm
       obtain ⟨r2, h2⟩ := lkA_of hm
       rw [lkA_some h2] at hr
       cases hr
       have hm2 := lkM h2
       rw [pickR, List.mem_filter] at hm2
       obtain ⟨hm3, hlook⟩ := hm2
       obtain ⟨j, p, hj, hm4⟩ := memE_mem.1 hm3
       rw [List.getElem?_take] at hj
       split at hj
       ·rename_i hji
        obtain ⟨oj, hoj, _, _, hdj⟩ := hent j p hj
        obtain ⟨k1, k2, y, k3⟩ := hdj t _ hm4
        rcases dep.look i j op oj t hop' hoj k1 (memN_yes hlook) with ⟨_, ed, hed, hb, heq⟩ | ⟨hij, _⟩
        ·have hlj : listed.getD j false = true := by rw [<-heq]; exact haft ed hed hb
         obtain ⟨r4, h4⟩ := lkA_of hm4
         have e4 : r4 = r := by
          have h5 := hop j oj (by omega) hoj
          rw [if_neg k2] at h5
          split at h5
          ·obtain ⟨d', y', r1', ψ', q1, q2, _⟩ := h5
           rw [hj] at q1
           cases q1
           simp only [List.mem_singleton, Prod.mk.injEq] at hm4
           obtain ⟨rfl, rfl⟩ := hm4
           rw [lk_cons, if_pos rfl] at h4
           cases h4; rfl
          ·obtain ⟨d', y', rn', ψ', q1, q2, _, q4, _⟩ := h5
           rw [hj] at q1
           cases q1
           rcases stepW_shape q2 q4 with e | ⟨r5, e⟩
           ·rw [e] at hm4; cases hm4
           ·rw [e] at hm4 h4
            simp only [List.mem_singleton, Prod.mk.injEq] at hm4
            obtain ⟨rfl, rfl⟩ := hm4
            rw [lk_cons, if_pos rfl] at h4
            cases h4; rfl
         rw [e4] at h4
         exact hF2 (fun j => listed.getD j false) t r (fun hc => hti hc) (hPMin (fun j => listed.getD j false) j p t r hj h4 (by simpa using hlj))
        ·omega
       ·cases hj
      ·rw [lkA_none fun r' h' => hm ⟨r', h'⟩] at hr
       exact hCbase (fun j => listed.getD j false) t r hr
    by_cases his : i = s
    ·rw [if_pos his] at h1
     obtain ⟨ys, ψ, g1, g2, g3⟩ := h1
     have huns : listed.getD s false = false := by rw [<-his]; exact hun'
     have hRS : RS (fun j => listed.getD j false) = CL (fun j => listed.getD j false) ++ A.rs := by
      simp only [RS, huns]; rfl
     refine stepS_wp hl hop' (A := ⟨A.n, SL (fun j => listed.getD j false), RS (fun j => listed.getD j false)⟩) (B := ⟨A.n, pickS (slotsE (prs.take i) ++ A.sl) (looks ops op), pickR (memE (prs.take i)) (looks ops op) ++ A.rs⟩) ⟨rfl, fun t r hr => ?_, hsl⟩ hs' g2 g3 (fun d y hdy => ?_) (next g1 fun t r hr => ?_)
     ·simp only at hr ⊢
      rw [hRS]
      refine hsee (fun r' hm _ e => ?_) hr
      rw [pickR, List.mem_filter] at hm
      have hlook := hm.2
      simp only [e] at hlook
      have := hno op (by rw [<-his]; exact hop')
      rw [this] at hlook; cases hlook
     ·have hf := freshV1_ok hfr i d y [] [] (by
       rw [g1]
       obtain ⟨_, ⟨d', r1, _, e, _⟩ | ⟨r1, _, e, _⟩⟩ := stepS_shape g2
       ·rw [e] at hdy ⊢
        simp only [List.mem_singleton, Prod.mk.injEq] at hdy
        obtain ⟨rfl, rfl⟩ := hdy
        rfl
       ·rw [e] at hdy; cases hdy) (.inl (by omega))
      rw [Nat.zero_add] at hf
      rw [hRS]
      refine fresh_super hf.2.1.1 hf.2.1.2 (fun t x hm => ?_) (fun t r hm => ?_)
      ·obtain ⟨j, q, hj, hlj, hm'⟩ := pickL_mem hm
       obtain ⟨p', hj', rfl⟩ := mapGet hj
       exact menL_ok (freshE_ok hf.1 j p' hj' (by intro e; rw [Nat.zero_add] at e hlj; subst e; rw [hun'] at hlj; cases hlj) (by
        rw [Nat.zero_add] at hlj ⊢
        cases hbo : bindsOn ops j i with
        | false => rfl
        | true =>
          have := waitsFor_ok (ls := fun j => listed.getD j false) hcl hbo hlj
          rw [hun'] at this; cases this)).1 t x hm'
      ·obtain ⟨j, q, hj, hlj, hm'⟩ := pickL_mem (hF4 (fun j => listed.getD j false) t r hm)
       obtain ⟨p', hj', rfl⟩ := mapGet hj
       exact freshR_mem (freshE_ok hf.1 j p' hj' (by intro e; rw [Nat.zero_add] at e hlj; subst e; rw [hun'] at hlj; cases hlj) (by
        rw [Nat.zero_add] at hlj ⊢
        cases hbo : bindsOn ops j i with
        | false => rfl
        | true =>
          have := waitsFor_ok (ls := fun j => listed.getD j false) hcl hbo hlj
          rw [hun'] at this; cases this)).2 hm'
     ·have hnews : (listed.setIfInBounds i true).getD s false = true := by rw [hget, if_pos his.symm]
      have hcs : (listed.setIfInBounds i true).getD c false = listed.getD c false := by rw [hget, if_neg (fun e => hsc.1 (by rw [<-his, <-e]))]
      have hRS' : RS (fun j => (listed.setIfInBounds i true).getD j false) = sp ++ (CL (fun j => (listed.setIfInBounds i true).getD j false) ++ A.rs) := by
       simp only [RS, hnews]; rfl
      rw [hRS'] at hr
      rw [hRS]
      by_cases hmem : ∃ r', (t, r') ∈ sp
      ·obtain ⟨r', hmem⟩ := hmem
       obtain ⟨r2, h2⟩ := lkA_of hmem
       rw [lkA_some h2] at hr ⊢
       exact hr
      ·rw [lkA_none fun r' h' => hmem ⟨r', h'⟩] at hr ⊢
       have := pickL_step (p := []) hapM (by rw [List.getElem?_map, g1]; rfl) (ls' := fun j => (listed.setIfInBounds i true).getD j false) (ls := fun j => listed.getD j false) (by simp [hget]) (fun j hj => by simp [hget, hj]) (hF1 (fun j => (listed.setIfInBounds i true).getD j false) t r hr)
       exact hF2 (fun j => listed.getD j false) t r (fun hc => hF3 (fun j => (listed.setIfInBounds i true).getD j false) t r (by show (listed.setIfInBounds i true).getD c false = true; rw [hcs]; exact hc) hr) (by simpa using this)
    ·rw [if_neg his] at h1
     by_cases hic : i = c
     ·rw [if_pos hic] at h1
      obtain ⟨d, y, r1, ψ, g1, g2, g3⟩ := h1
      have hunc : listed.getD c false = false := by rw [<-hic]; exact hun'
      have huns : listed.getD s false = false := by
       cases hls : listed.getD s false with
       | false => rfl
       | true => have := hsb hls c (hsc.2 (by omega)); rw [hunc] at this; cases this
      have hRS : RS (fun j => listed.getD j false) = CL (fun j => listed.getD j false) ++ A.rs := by
       simp only [RS, huns]; rfl
      refine stepS_wp hl hop' (A := ⟨A.n, SL (fun j => listed.getD j false), RS (fun j => listed.getD j false)⟩) (B := ⟨A.n, pickS (slotsE (prs.take i) ++ A.sl) (looks ops op), pickR (memE (prs.take i)) (looks ops op) ++ A.rs⟩) ⟨rfl, fun t r hr => ?_, hsl⟩ hs' g2 g3 (fun d' y' hdy => ?_) (next g1 fun t r hr => ?_)
      ·simp only at hr ⊢
       rw [hRS]
       exact hsee (fun r' _ hc => by rw [hunc] at hc; cases hc) hr
      ·simp only [List.mem_singleton, Prod.mk.injEq] at hdy
       obtain ⟨rfl, rfl⟩ := hdy
       have hf := hnew i _ d' r1 g1 (.head _)
       rw [hRS]
       refine fresh_super hf.2.1.1 hf.2.1.2 (fun t x hm => ?_) (fun t r hm => ?_)
       ·obtain ⟨j, q, hj, hlj, hm'⟩ := pickL_mem hm
        obtain ⟨p', hj', rfl⟩ := mapGet hj
        exact menL_ok (freshE_ok hf.1 j p' hj' (by intro e; rw [Nat.zero_add] at e hlj; subst e; rw [hun'] at hlj; cases hlj) (by
         rw [Nat.zero_add] at hlj ⊢
         cases hbo : bindsOn ops j i with
         | false => rfl
         | true =>
           have := waitsFor_ok (ls := fun j => listed.getD j false) hcl hbo hlj
           rw [hun'] at this; cases this)).1 t x hm'
       ·obtain ⟨j, q, hj, hlj, hm'⟩ := pickL_mem (hF4 (fun j => listed.getD j false) t r hm)
        obtain ⟨p', hj', rfl⟩ := mapGet hj
        exact freshR_mem (freshE_ok hf.1 j p' hj' (by intro e; rw [Nat.zero_add] at e hlj; subst e; rw [hun'] at hlj; cases hlj) (by
         rw [Nat.zero_add] at hlj ⊢
         cases hbo : bindsOn ops j i with
         | false => rfl
         | true =>
           have := waitsFor_ok (ls := fun j => listed.getD j false) hcl hbo hlj
           rw [hun'] at this; cases this)).2 hm'
      ·have hnews : (listed.setIfInBounds i true).getD s false = listed.getD s false := by rw [hget, if_neg (Ne.symm his)]
       have hnewc : (listed.setIfInBounds i true).getD c false = true := by rw [hget, if_pos hic.symm]
       have hRS' : RS (fun j => (listed.setIfInBounds i true).getD j false) = CL (fun j => (listed.setIfInBounds i true).getD j false) ++ A.rs := by
        simp only [RS, hnews, huns]; rfl
       rw [hRS'] at hr
       rw [hRS]
       have hne := hF3 (fun j => (listed.setIfInBounds i true).getD j false) t r hnewc hr
       have := pickL_step (p := [(d, r1)]) hapM (by rw [List.getElem?_map, g1]; rfl) (ls' := fun j => (listed.setIfInBounds i true).getD j false) (ls := fun j => listed.getD j false) (by simp [hget]) (fun j hj => by simp [hget, hj]) (hF1 (fun j => (listed.setIfInBounds i true).getD j false) t r hr)
       rw [List.cons_append, lk_cons] at this ⊢
       by_cases e : d = t
       ·rw [if_pos e] at this ⊢; exact this
       ·rw [if_neg e] at this ⊢
        rw [List.cons_append, lk_cons, if_neg (Ne.symm hne)]
        exact hF2 (fun j => listed.getD j false) t r (fun hc => by rw [hunc] at hc; cases hc) (by simpa using this)
     rw [if_neg hic] at h1
     obtain ⟨d, y, rn, ψ, g1, g2, g3, g4, g5⟩ := h1
     have hkey : ∀ t r, (t, r) ∈ rn -> t = d := fun t r hm => by
      rcases stepW_shape g2 g4 with e | ⟨r', e⟩
      ·rw [e] at hm; cases hm
      ·rw [e] at hm
       simp only [List.mem_singleton, Prod.mk.injEq] at hm
       exact hm.1
     -- the new number is none of the special ones, once these are there
     have hspd : listed.getD s false = true -> ∀ t r, (t, r) ∈ rn -> freshR t sp = true := fun hls t r hm => by
      rcases (hnew i _ t r g1 hm).2.2 with e | e
      ·rw [e] at hm
       have := hsb hls i (hi0b i _ r g1 hm)
       rw [hun'] at this; cases this
      ·exact e
     have hfr' : rn ≠ [] -> freshB ⟨A.n, SL (fun j => listed.getD j false), RS (fun j => listed.getD j false)⟩ d = true := fun hne => by
      obtain ⟨r, hr⟩ : ∃ r, (d, r) ∈ rn := by
       rcases stepW_shape g2 g4 with e | ⟨r', e⟩
       ·exact absurd e hne
       ·exact ⟨r', by rw [e]; exact .head _⟩
      have hf := hnew i _ d r g1 hr
      simp only [RS]
      rw [<-List.append_assoc]
      refine fresh_super hf.2.1.1 hf.2.1.2 (fun t x hm => ?_) (fun t r' hm => ?_)
      ·obtain ⟨j, q, hj, hlj, hm'⟩ := pickL_mem hm
       obtain ⟨p', hj', rfl⟩ := mapGet hj
       exact menL_ok (freshE_ok hf.1 j p' hj' (by intro e; rw [Nat.zero_add] at e hlj; subst e; rw [hun'] at hlj; cases hlj) (by
        rw [Nat.zero_add] at hlj ⊢
        cases hbo : bindsOn ops j i with
        | false => rfl
        | true =>
          have := waitsFor_ok (ls := fun j => listed.getD j false) hcl hbo hlj
          rw [hun'] at this; cases this)).1 t x hm'
      ·rcases List.mem_append.1 hm with hm | hm
       ·split at hm
        ·rename_i hls
         exact freshR_mem (hspd hls d r hr) hm
        ·cases hm
       ·obtain ⟨j, q, hj, hlj, hm'⟩ := pickL_mem (hF4 (fun j => listed.getD j false) t r' hm)
        obtain ⟨p', hj', rfl⟩ := mapGet hj
        exact freshR_mem (freshE_ok hf.1 j p' hj' (by intro e; rw [Nat.zero_add] at e hlj; subst e; rw [hun'] at hlj; cases hlj) (by
        rw [Nat.zero_add] at hlj ⊢
        cases hbo : bindsOn ops j i with
        | false => rfl
        | true =>
          have := waitsFor_ok (ls := fun j => listed.getD j false) hcl hbo hlj
          rw [hun'] at this; cases this)).2 hm'
     refine stepW_wp hl hT hop' (A := ⟨A.n, SL (fun j => listed.getD j false), RS (fun j => listed.getD j false)⟩) (B := ⟨A.n, pickS (slotsE (prs.take i) ++ A.sl) (looks ops op), bif bindsOn ops s i then A.rs else (bif bindsOn ops i s && Nat.blt s i then sp ++ without i0 A.rs else without i0 A.rs)⟩) ⟨rfl, fun t r hr => ?_, hsl⟩ hs' g2 g3 g4 g5 hfr' fun o2 h2 v w1 hs2 hext => next g1 (sp' := rn) (fun t r hr => ?_) o2 h2 _ w1 hs2 hext
     ·simp only at hr ⊢
      cases hbo : bindsOn ops s i with
      | true =>
        rw [hbo] at hr
        have huns : listed.getD s false = false := by
         cases hls : listed.getD s false with
         | false => rfl
         | true => have := hsb hls i hbo; rw [hun'] at this; cases this
        simp only [RS, huns]
        exact hCbase (fun j => listed.getD j false) t r hr
      | false =>
        rw [hbo] at hr
        cases hb2 : (bindsOn ops i s && Nat.blt s i) with
        | true =>
          rw [hb2] at hr
          have hls : listed.getD s false = true := by
           have h3 := waitsFor_ok (ls := fun j => (listed.setIfInBounds i true).getD j false) (fun j oj hoj hlj e he hb => by
            rw [hget] at hlj ⊢
            by_cases he' : e.on = i
            ·rw [if_pos he']
            ·rw [if_neg he']
             by_cases hji : j = i
             ·subst hji
              rw [hop'] at hoj
              cases hoj
              exact haft e he hb
             ·rw [if_neg hji] at hlj
              exact hcl j oj hoj hlj e he hb) (Bool.and_eq_true_iff.1 hb2).1 (by simp [hget])
           rw [hget, if_neg (Ne.symm his)] at h3
           exact h3
          simp only [RS, hls, if_true]
          replace hr : lk (sp ++ without i0 A.rs) t = some r := hr
          by_cases hmem : ∃ r', (t, r') ∈ sp
          ·obtain ⟨r', hmem⟩ := hmem
           obtain ⟨r2, h2⟩ := lkA_of hmem
           rw [lkA_some h2] at hr ⊢
           exact hr
          ·rw [lkA_none fun r' h' => hmem ⟨r', h'⟩] at hr ⊢
           exact hCbase (fun j => listed.getD j false) t r (without_lk hr).1
        | false =>
        rw [hb2] at hr
        obtain ⟨k1, k2⟩ := without_lk (show lk (without i0 A.rs) t = some r from hr)
        simp only [RS]
        rw [lkA_none fun r' hm => ?_]
        ·exact hCbase (fun j => listed.getD j false) t r k1
        ·split at hm
         ·rename_i hls
          by_cases hsn : s < n
          ·have h6 := hop s ops[s] hsn (Array.getElem?_eq_getElem (by omega))
           rw [if_pos rfl] at h6
           obtain ⟨ys, ψ', q1, q2, _⟩ := h6
           rcases stepS_keys q2 t r' hm with e | ⟨y', hy'⟩
           ·exact k2 e
           ·obtain ⟨_, ⟨d', r1, _, e, _⟩ | ⟨r1, _, e, _⟩⟩ := stepS_shape q2
            ·rw [e] at q1 hy'
             simp only [List.mem_singleton, Prod.mk.injEq] at hy'
             obtain ⟨rfl, _⟩ := hy'
             have hf := freshV1_ok hfr s t _ [] [] q1 (.inl (by omega))
             exact (freshR_mem hf.2.1.2 (lk_mem k1)).1 rfl
            ·rw [e] at hy'; cases hy'
          ·rw [hsp0 (by omega)] at hm; cases hm
         ·cases hm
     ·have hnews : (listed.setIfInBounds i true).getD s false = listed.getD s false := by rw [hget, if_neg (Ne.symm his)]
      simp only [RS, hnews] at hr ⊢
      by_cases hmem : ∃ r', (t, r') ∈ (if listed.getD s false = true then sp else [])
      ·obtain ⟨r', hmem⟩ := hmem
       rw [lkA_none fun r2 h2 => ?_]
       ·obtain ⟨r3, h3⟩ := lkA_of hmem
        rw [lkA_some h3] at hr ⊢
        exact hr
       ·split at hmem
        ·rename_i hls
         exact (freshR_mem (hspd hls t r2 h2) hmem).1 rfl
        ·cases hmem
      ·rw [lkA_none fun r' h' => hmem ⟨r', h'⟩] at hr
       have := pickL_step (p := rn) hapM (by rw [List.getElem?_map, g1]; rfl) (ls' := fun j => (listed.setIfInBounds i true).getD j false) (ls := fun j => listed.getD j false) (by simp [hget]) (fun j hj => by simp [hget, hj]) (hF1 (fun j => (listed.setIfInBounds i true).getD j false) t r hr)
       by_cases hrn : ∃ r', (t, r') ∈ rn
       ·obtain ⟨r', hrn⟩ := hrn
        obtain ⟨r2, h2⟩ := lkA_of hrn
        rw [lkA_some h2] at this ⊢
        exact this
       ·rw [lkA_none fun r' h' => hrn ⟨r', h'⟩] at this ⊢
        rw [lkA_none fun r' h' => hmem ⟨r', h'⟩]
        exact hF2 (fun j => listed.getD j false) t r (fun hc => hF3 (fun j => (listed.setIfInBounds i true).getD j false) t r (by show (listed.setIfInBounds i true).getD c false = true; rw [hget, if_neg (Ne.symm hic)]; exact hc) hr) this
 refine main ops.size (Array.replicate ops.size false) o h tm w.drew (by simp) (fun j _ => by simp [Array.getD_eq_getD_getElem?, Array.getElem?_replicate]; split <;> rfl) ?_ ?_ ?_ (Ext.drew o w)
 ·have : ∀ n, cntU (fun j => (Array.replicate ops.size false).getD j false) n ≤ n := by
   intro n
   induction n with
   | zero => exact Nat.le_refl _
   | succ n ih => simp only [cntU]; split <;> omega
  have := this n
  omega
 ·intro i oi hoi hli
  simp [Array.getD_eq_getD_getElem?, Array.getElem?_replicate] at hli
  split at hli <;> cases hli
 ·have hs' := hs.drew
  have hno : ∀ j, (fun j => (Array.replicate ops.size false).getD j false) j = false := fun j => by
   simp [Array.getD_eq_getD_getElem?, Array.getElem?_replicate]
   split <;> rfl
  have hno' := hno s
  simp only at hno'
  have hc0 := hno c
  simp only at hc0
  have e1 : SL (fun j => (Array.replicate ops.size false).getD j false) = A.sl := by simp only [SL]; rw [pickL_none hno]; rfl
  have e2 : RS (fun j => (Array.replicate ops.size false).getD j false) = A.rs := by simp only [RS, CL, hno', hc0]; rw [pickL_none hno]; rfl
  rw [e1, e2]
  exact hs'
theorem KW.goDW {k k' : List K} {e : Exit} (hl : LayOk P lay) (hT : FnsOk P fns) (hm : P.follows .mixedOrders = true) (f : Nat) {id : Nat} {ops : Array Oper} {φ ψ : Prop} (h : run2 lay fns f k e A True = (.code (.region id ops true) :: k', .normal, A', φ)) (n s i0 c i1 kp : Nat) (hsz0 : Nat.blt n ops.size = true) (hdep : depOk ops = true) (htl : tailsOk ops n = true) (hat : (match lk A'.rs i0 with | some _ => true | none => layBefore ops s i0 n) = true) (hst : specB ops A'.rs n s i0 c i1 = true)
  {prs : List Ent} {sp : List (Nat × Res)} (hg : drawW lay fns ops A'.rs (without i0 A'.rs) A'.n s i0 c i1 kp (takeN n ops.toList) 0 A'.sl [] [] True = some (prs, sp, ψ)) (hfr : freshV1 ops prs sp A' s i0 0 prs = true) (hφ : φ) (hψ : ψ)
  (hn : KW P (.ops ops (dropN n ops.toList) :: k') .normal ⟨A'.n, slotsE prs ++ A'.sl, sp ++ (without i1 (memE prs) ++ A'.rs)⟩ Q) : KW P k e A Q :=
 KW.go hl hT f h hφ (KW.drawnW hl hT hm s i0 c i1 kp hsz0 hdep htl hat hst hg hfr hψ hn)
end
end Go.Sy
end
section
attribute [local instance] Go.Sy.drwNo
namespace Go.Proofs.YtocnofkagckhkaaGreatDoor
open Go.Sy Go.Pu Go.Proofs.YtocnofkagckhkaaGreatDoor.Tr
def lessC (c : CovP) (i : Nat) : CovP := ⟨c.cuts.take i ++ c.cuts.drop (i + 1), c.paths, c.tree⟩
def twiceC (c : CovP) (i : Nat) : CovP := ⟨c.cuts ++ [c.cuts.getD i 0], c.paths, c.tree⟩
theorem less_facts {f : FormP} {c : CovP} {i : Nat} (h : covE f c = 0) (ha : (faultV f c).1 = 0) (hi : i < c.cuts.length) : covE f (lessC c i) = 0 /\ (faultV f (lessC c i)).1 ≠ 0 := by
 obtain ⟨n, hn, hn24, q1, q2, q3, q4, q5, q6⟩ := cov_facts h ha
 obtain ⟨e1, e2, e3, e4⟩ := covE_zero h
 obtain ⟨R1, R2, R3, R4, R5⟩ := cov_right hn h ha
 have hsub : ∀ x ∈ (lessC c i).cuts, x ∈ c.cuts := fun x hx => by
  rcases List.mem_append.1 hx with hx | hx
  ·exact List.mem_of_mem_take hx
  ·exact List.mem_of_mem_drop hx
 have hlen : (lessC c i).cuts.length ≤ 1024 := by
  show (c.cuts.take i ++ c.cuts.drop (i + 1)).length ≤ 1024
  simp only [List.length_append, List.length_take, List.length_drop]
  omega
 have hz : covE f (lessC c i) = 0 := by
  unfold covE
  rw [if_pos e1, hn, setE_of hn24 hlen fun x hx => q6 x (hsub x hx), if_pos rfl]
  show (if setE n c.paths = 0 then splE c.tree n else setE n c.paths) = 0
  rw [<-hn, if_pos e3]; exact e4
 refine ⟨hz, fun hf => ?_⟩
 obtain ⟨_, _, _, _, S5⟩ := cov_right hn hz hf
 have hm := getD_mem hi
 have hmem := S5 _ (R1 _ hm).1 (R1 _ hm).2
 have hsplit : c.cuts = c.cuts.take i ++ (c.cuts.getD i 0 :: c.cuts.drop (i + 1)) := by
  have h1 : c.cuts.drop i = c.cuts[i] :: c.cuts.drop (i + 1) := List.drop_eq_getElem_cons hi
  rw [show c.cuts.getD i 0 = c.cuts[i] by simp [List.getD_eq_getElem?_getD, hi], <-h1, List.take_append_drop]
 rw [hsplit] at R2
 have hnd := List.nodup_append.1 R2
 rcases List.mem_append.1 hmem with hx | hx
 ·exact hnd.2.2 _ hx _ (.head _) rfl
 ·exact (List.nodup_cons.1 hnd.2.1).1 hx
theorem twice_facts {f : FormP} {c : CovP} {i : Nat} (h : covE f c = 0) (ha : (faultV f c).1 = 0) (hi : i < c.cuts.length) : (c.cuts.length = 1024 -> covE f (twiceC c i) = 4) /\ (c.cuts.length ≠ 1024 -> covE f (twiceC c i) = 0 /\ faultV f (twiceC c i) = (2, (c.cuts.length : Int))) := by
 obtain ⟨n, hn, hn24, q1, q2, q3, q4, q5, q6⟩ := cov_facts h ha
 obtain ⟨e1, e2, e3, e4⟩ := covE_zero h
 obtain ⟨a1, a2, a3, a4⟩ := fault_zero.1 ha
 have hlen : (twiceC c i).cuts.length = c.cuts.length + 1 := by simp [twiceC]
 refine ⟨fun h1 => ?_, fun h1 => ⟨?_, ?_⟩⟩
 ·have : setE f.vars (twiceC c i).cuts = 4 := by rw [setE, if_pos (by omega)]
  unfold covE
  rw [if_pos e1, this, if_neg (by decide)]
 ·unfold covE
  rw [if_pos e1, hn, setE_of hn24 (by omega) fun x hx => ?_, if_pos rfl]
  ·show (if setE n c.paths = 0 then splE c.tree n else setE n c.paths) = 0
   rw [<-hn, if_pos e3]; exact e4
  ·rcases List.mem_append.1 hx with hx | hx
   ·exact q6 x hx
   ·rw [List.mem_singleton] at hx; subst hx; exact q6 _ (getD_mem hi)
 ·have hget : ∀ q, q < c.cuts.length -> (twiceC c i).cuts.getD q 0 = c.cuts.getD q 0 := fun q hq => by
   show (c.cuts ++ [_]).getD q 0 = _
   simp only [List.getD_eq_getElem?_getD]
   rw [List.getElem?_append_left hq]
  have hlast : (twiceC c i).cuts.getD c.cuts.length 0 = c.cuts.getD i 0 := by
   show (c.cuts ++ [c.cuts.getD i 0]).getD c.cuts.length 0 = _
   rw [List.getD_eq_getElem?_getD (l := c.cuts ++ _), List.getElem?_append_right (Nat.le_refl _)]
   simp
  have htk : ∀ q, q ≤ c.cuts.length -> (twiceC c i).cuts.take q = c.cuts.take q := fun q hq => by
   show (c.cuts ++ [_]).take q = _
   rw [List.take_append_of_le_length hq]
  have b1 : firstB (bad1 f (twiceC c i)) (twiceC c i).cuts.length = none := firstB_none.2 fun q hq => by
   rw [hlen] at hq
   by_cases hq2 : q < c.cuts.length
   ·have := a1 q hq2
    rw [bad1] at this ⊢
    rw [hget q hq2]; exact this
   ·have e : q = c.cuts.length := by omega
    have := a1 i hi
    rw [bad1] at this ⊢
    rw [e, hlast]; exact this
  have b2 : firstB (bad2 f (twiceC c i)) (twiceC c i).cuts.length = some c.cuts.length := firstB_some (by omega) (by
   rw [bad2, hlast, htk _ (Nat.le_refl _), List.take_length]
   have : c.cuts.contains (c.cuts.getD i 0) = true := List.contains_iff_mem.2 (getD_mem hi)
   rw [this]; simp) fun q hq => by
   have := a2 q hq
   rw [bad2] at this ⊢
   rw [hget q hq, htk q (by omega)]; exact this
  unfold faultV
  rw [b1, b2]
theorem less_cv {cuts : List Int} {i n1 o1 n2 o2 : Nat} (hi : i < cuts.length) (h1 : n1 = i) (h2 : o1 = 0) (h3 : n2 = cuts.length - (i + 1)) (h4 : o2 = i + 1) :
  CVEq (catV (catV (ints []) (.sl n1 1 fun e q => .lit (.int .i64 (cuts.getD (e + o1) 0)))) (.sl n2 1 fun e q => .lit (.int .i64 (cuts.getD (e + o2) 0)))) (ints (cuts.take i ++ cuts.drop (i + 1))) := by
 subst h1 h2 h3 h4
 refine ⟨by simp only [List.length_append, List.length_take, List.length_drop, List.length_nil]; omega, .inr ⟨rfl, fun e q he hq => ?_⟩⟩
 simp only [List.length_nil] at he ⊢
 show CVEq (bif Nat.blt e (0 + n1) then (bif Nat.blt e 0 then _ else _) else _) _
 by_cases h : e < n1
 ·have h1 : Nat.blt e (0 + n1) = true := by simpa [Nat.blt, Nat.succ_le_iff] using h
  have h0 : Nat.blt e 0 = false := rfl
  rw [h1, h0]
  show Value.int _ _ = Value.int _ _
  congr 1
  simp only [Nat.sub_zero, Nat.add_zero, List.getD_eq_getElem?_getD]
  rw [List.getElem?_append_left (by simp; omega), List.getElem?_take, if_pos h]
 ·have h1 : Nat.blt e (0 + n1) = false := by
   cases hb : Nat.blt e (0 + n1) with
   | false => rfl
   | true => exfalso; have : e < 0 + n1 := by simpa [Nat.blt, Nat.succ_le_iff] using hb
             omega
  rw [h1]
  show Value.int _ _ = Value.int _ _
  congr 1
  simp only [List.getD_eq_getElem?_getD]
  rw [List.getElem?_append_right (by simp; omega), List.getElem?_drop]
  congr 2
  simp only [List.length_take]
  omega
theorem twice_cv {cuts : List Int} {i : Nat} {y : Int} (h : y = cuts.getD i 0) : CVEq (catV (catV (ints []) (ints cuts)) (ints [y])) (ints (cuts ++ [cuts.getD i 0])) := by
 rw [catV_ints, catV_ints, List.nil_append, h]
 exact CVEq.refl _
set_option maxHeartbeats 6400000 in
theorem lawCoverLess_does (f : FormP) (b : Int) (hin : FormIn f) (hb : 0 ≤ b /\ b < 256) (T : Nat) : DoesF Tryz.prog 5 [.ag (formC f), .c (.lit (.int .u8 b))] [gloP 200 T] (sB true) [] := by
 refine DoesF.body _ Tryz.func5 rfl rfl rfl rfl ?_
 obtain ⟨vars, ns, top⟩ := f
 refine KW.go lay_ok Y3_ok 100 rfl ?_ ?_
 ·simp only [unN_nodesC, isN_nodesC, unI_nil, isI_nil, unTr_nil, isKs_nil, true_and, and_true]
  exact hin
 simp only [unN_nodesC, unI_nil, unTr_nil]
 rw [show (⟨[], [], Tr.no⟩ : CovP) = cov0 from rfl]
 cases hl : light36F ⟨vars, ns, top⟩ cov0 with
 | false =>
   refine KW.skipD (bV true) rfl rfl (by first | rfl | simp) rfl rfl ?_
   refine KW.goIf lay_ok Y3_ok 100 rfl (by simp) rfl trivial (fun h => ?_) fun h => absurd h (by simp)
   refine KW.go lay_ok Y3_ok 100 rfl (by simp) ?_
   refine KW.call0 (awake36_does T) (enters Tryz.func10 rfl rfl) [(0, 200)] [] [] (.inl rfl) rfl rfl rfl rfl rfl trivial trivial rfl ⟨rfl, trivial⟩ rfl trivial rfl rfl (.inl rfl) ?_
   exact KW.goRet lay_ok Y3_ok 100 rfl rfl rfl (by simp) trivial
 | true =>
   refine KW.dupG 200 300 rfl ?_
   refine KW.call0 (awake36_does T) (enters Tryz.func10 rfl rfl) [(0, 300)] [] [] (.inr ⟨4, false, _, rfl, rfl, by first | rfl | simp⟩) rfl rfl rfl rfl rfl trivial trivial rfl ⟨rfl, trivial⟩ rfl trivial rfl rfl (.inl rfl) ?_
   refine KW.goIf lay_ok Y3_ok 100 rfl (by simp) rfl trivial (fun h => absurd h (by simp)) fun h => ?_
   clear h
   have hsm := makeC_sm ⟨vars, ns, top⟩
   have hfac := make_facts (f := ⟨vars, ns, top⟩)
   cases hp : (decide (makeE ⟨vars, ns, top⟩ = 0) && decide ((makeC ⟨vars, ns, top⟩).cuts.length ≠ 0)) with
   | false =>
     have hp' : makeE ⟨vars, ns, top⟩ = 0 -> (makeC ⟨vars, ns, top⟩).cuts.length = 0 := fun h => by simpa [h] using hp
     refine KW.goIf lay_ok Y3_ok 100 rfl ?_ rfl trivial (fun h => ?_) fun h => absurd h ?_
     ·simp only [unN_nodesC, isN_nodesC, true_and, and_true, ifcV_errV]
      simp [hin]
     ·exact KW.goRet lay_ok Y3_ok 100 rfl rfl rfl (by simp) trivial
     ·simp only [unN_nodesC]
      by_cases h0 : makeE ⟨vars, ns, top⟩ = 0
      ·simp [h0, hp' h0]
      ·simp [h0]
   | true =>
     have hp1 : makeE ⟨vars, ns, top⟩ = 0 /\ ¬ (makeC ⟨vars, ns, top⟩).cuts.length = 0 := by simpa using hp
     obtain ⟨h0, hl0⟩ := hp1
     obtain ⟨k1, k2, _⟩ := hfac h0
     refine KW.goIf lay_ok Y3_ok 100 rfl ?_ rfl trivial (fun h => absurd h ?_) fun h => ?_
     ·simp only [unN_nodesC, isN_nodesC, true_and, and_true, ifcV_errV]
      simp [hin]
     ·simp only [unN_nodesC]
      simp [h0]
      intro e
      exact hl0 (by rw [e]; rfl)
     clear h
     simp only [unN_nodesC]
     generalize makeC ⟨vars, ns, top⟩ = C at hsm k1 k2 hl0
     obtain ⟨cuts, paths, t⟩ := C
     simp only at hl0
     have h1024 : cuts.length ≤ 1024 := by
      obtain ⟨_, _, _, _, _, _, q5, _, _⟩ := cov_facts k1 k2
      exact q5
     obtain ⟨i, hi, ei⟩ : ∃ i : Nat, i < cuts.length /\ b.tmod (cuts.length : Int) = (i : Int) := by
      have h1 : 0 ≤ b.tmod (cuts.length : Int) := Int.tmod_nonneg _ hb.1
      have h2 : b.tmod (cuts.length : Int) < (cuts.length : Int) := Int.tmod_lt_of_pos _ (by omega)
      exact ⟨(b.tmod (cuts.length : Int)).toNat, by omega, by omega⟩
     refine KW.goDW lay_ok Y3_ok rfl 100 rfl 18 11 49 5 44 44 rfl (by decide +kernel) (by decide +kernel) rfl rfl rfl rfl ?_ ?_ ?_
     ·simp only [inK]
      simp [hl0]
      omega
     ·simp only [ei, inK]
      simp [hl0]
      omega
     refine KW.go lay_ok Y3_ok 100 rfl (by simp) ?_
     refine KW.frzB 8 0 55 rfl rfl rfl rfl ?_
     refine KW.convB 8 0 (ints (cuts.take i ++ cuts.drop (i + 1))) rfl rfl (less_cv hi (by simp only [ei]; simp) rfl (by simp only [ei]; omega) (by simp only [ei]; omega)) ?_
     refine KW.goDW lay_ok Y3_ok rfl 100 rfl 17 10 64 3 61 61 rfl (by decide +kernel) (by decide +kernel) rfl rfl rfl rfl ?_ ?_ ?_
     ·simp
     ·simp only [ei]
      simp
      omega
     refine KW.go lay_ok Y3_ok 1 rfl (by simp) ?_
     refine KW.frzB 9 0 71 rfl rfl rfl rfl ?_
     refine KW.convB 9 0 (ints (cuts ++ [cuts.getD i 0])) rfl rfl (twice_cv (by simp only [ei]; simp)) ?_
     obtain ⟨l1, l2⟩ := less_facts (i := i) k1 k2 hi
     obtain ⟨t1, t2⟩ := twice_facts (i := i) k1 k2 hi
     have s1 : covSm (lessC ⟨cuts, paths, t⟩ i) := ⟨hsm.1, by
      show (cuts.take i ++ cuts.drop (i + 1)).length ≤ 1099511627776
      simp only [List.length_append, List.length_take, List.length_drop]
      omega, hsm.2.2⟩
     have s2 : covSm (twiceC ⟨cuts, paths, t⟩ i) := ⟨hsm.1, by
      show (cuts ++ [cuts.getD i 0]).length ≤ 1099511627776
      simp only [List.length_append, List.length_singleton]
      omega, hsm.2.2⟩
     have e1 : (⟨cuts.take i ++ cuts.drop (i + 1), paths, t⟩ : CovP) = lessC ⟨cuts, paths, t⟩ i := rfl
     have e2 : (⟨cuts ++ [cuts.getD i 0], paths, t⟩ : CovP) = twiceC ⟨cuts, paths, t⟩ i := rfl
     simp only at t1 t2
     refine KW.goIf lay_ok Y3_ok 200 rfl ?_ rfl trivial (fun h => ?_) fun h => ?_
     ·simp only [unN_nodesC, isN_nodesC, unI_ints, isI_ints, unTr_cells, isKs_ks, true_and, and_true, ifcV_errV, e1, e2]
      simp [hin, s1, s2]
     ·have h3 : cuts.length = 1024 := by simp at h; omega
      have h4 := t1 h3
      refine KW.goRet lay_ok Y3_ok 200 rfl rfl ?_ ?_ trivial
      ·simp only [SV.ren, EV.ren, unN_nodesC, unI_ints, unTr_cells, e1, e2, l1, h4]
       simp [l2]
      ·simp only [unN_nodesC, isN_nodesC, unI_ints, isI_ints, unTr_cells, isKs_ks, true_and, and_true, ifcV_errV, e1, e2]
       simp +contextual [hin, s1, s2]
     ·have h3 : cuts.length ≠ 1024 := by simp at h; omega
      obtain ⟨h4, h5⟩ := t2 h3
      refine KW.goRet lay_ok Y3_ok 200 rfl rfl ?_ ?_ trivial
      ·simp only [SV.ren, EV.ren, unN_nodesC, unI_ints, unTr_cells, e1, e2, l1, h4, h5]
       simp [l2]
      ·simp only [unN_nodesC, isN_nodesC, unI_ints, isI_ints, unTr_cells, isKs_ks, true_and, and_true, ifcV_errV, e1, e2]
       simp +contextual [hin, s1, s2]
end Go.Proofs.YtocnofkagckhkaaGreatDoor
end
section
namespace Go.Sy
open Go.ChangeShapes Go.WideShapes Go.ChangeAt Go.RowKit
variable [Drw]
open Go.ChangeMaps (open_string shut_string)
def oldO (W : World) : Nat -> Tag := fun b => if b < W.heap.size then .sh else .no
theorem ext_below {W w' : World} {o' : Nat -> Tag} (h : Ext (oldO W) W o' w') : Below W.heap.size W w' :=
 ⟨h.os, h.tape, h.output, h.size, fun k hk => (h.sh k (by simp [oldO, hk]) hk).2⟩
section
variable {H : Type} {enc : TypeId × Value -> H} {P : Program} {W : World}
theorem op_int {t : TypeId} {k : IntKind} {v : Value} {d : DataW H} {ps : List MemPlace} (ht : P.underlying t = some (.int k)) (hval : Value.okWide P W .any 0 t v) (hd : DataW.Trod enc P W 0 (fun _ => true) true t v d ps) :
  ∃ n, v = .int k n /\ inK k n := by
 obtain ⟨n, rfl, _, _, hw⟩ := open_int ht hval hd
 refine ⟨n, rfl, ?_⟩
 cases k
 ·exact bounds_i8 hw
 ·exact bounds_i16 hw
 ·exact bounds_i32 hw
 ·exact bounds_i64 hw
 ·exact bounds_u8 hw
 ·exact bounds_u16 hw
 ·exact bounds_u32 hw
 ·exact bounds_u64 hw
theorem addr_eta {a : Addr} {w : World} {u : Value} (h : w.cell? a = some u) : a = ⟨a.block, a.off, none⟩ /\ a.block < w.heap.size := by
 unfold World.cell? at h
 cases hb : w.heap[a.block]? with
 | none => simp [hb] at h
 | some ob =>
   have hlt : a.block < w.heap.size := by
    rcases Nat.lt_or_ge a.block w.heap.size with h' | h'
    ·exact h'
    ·simp [Array.getElem?_eq_none h'] at hb
   refine ⟨?_, hlt⟩
   cases ob with
   | cells c _ _ =>
     simp only [hb] at h
     split at h
     ·cases h
     ·rename_i hs
      obtain ⟨b, o, s⟩ := a
      cases s with
      | none => rfl
      | some _ => simp at hs
   | _ => simp [hb] at h
theorem rep_ints {a : Option Addr} {len cap : Nat} {zs : List Int} (h0 : len = 0 ∨ ∃ x, a = some x /\ len ≤ zs.length /\ (∀ i, i < zs.length -> W.cell? (x.add i) = some (.int .i64 (zs.getD i 0)))) (hl : len ≤ cap) (hm : cap ≤ maxLen) (hz : (zs.take len).length = len) :
  RepV (oldO W) W (ints (zs.take len)) (.slice a len cap) := by
 refine ⟨a, cap, by rw [hz], by rw [hz]; exact hl, hm, ?_⟩
 rcases Nat.eq_zero_or_pos len with h00 | hpos
 ·exact .inl (by rw [hz]; exact h00)
 ·right
  rcases h0 with h0 | ⟨x, rfl, hlz, hc⟩
  ·omega
  ·have h1 := hc 0 (by omega)
   simp only [Addr.add, if_true] at h1
   obtain ⟨hx, hb⟩ := addr_eta h1
   refine ⟨x.block, x.off, by rw [hx], by simp [oldO, hb], fun e q he hq => ?_⟩
   have hq0 : q = 0 := by omega
   subst hq0
   rw [hz] at he
   have h2 := hc e (by omega)
   rw [hx, addr_add] at h2
   refine ⟨_, by simpa using h2, ?_, rfl⟩
   simp [List.getD_eq_getElem?_getD, he]
end
end Go.Sy
namespace Go.Sy
instance drwDef : Drw := drwNo
end Go.Sy
end
section
namespace Go.Sy
open Go.ChangeShapes Go.WideShapes Go.ChangeAt Go.RowKit Go.Pu
section
variable {H : Type} {enc : TypeId × Value -> H} {P : Program} {W : World}
theorem open_row {t e : TypeId} {fuel : Nat} {cs : List Value} {x : DataW H × List MemPlace} (ht : P.underlying t = some (.slice e)) (he : P.underlying e = some (.int .i64)) (hc : P.cellsOf e = 1) (hf : DataW.trod enc P W 0 (fun _ => true) true fuel t cs = some x) :
  ∃ (v : Value) (xs : List Int), cs = [v] /\ RepV (oldO W) W (ints xs) v /\ ∀ x ∈ xs, inK .i64 x := by
 rcases open_ints ht he hc hf with ⟨rfl, _⟩ | ⟨x, l, c, zs, rfl, _, hl, hm, hz, _, hcell, hwz⟩
 ·exact ⟨_, [], rfl, rep_ints (zs := []) (.inl rfl) (Nat.le_refl _) (Nat.zero_le _) rfl, by simp⟩
 ·simp only [if_true] at hz
  exact ⟨_, zs.take l, rfl, rep_ints (.inr ⟨x, rfl, by omega, hcell⟩) hl hm (by simp; omega), fun y hy => bounds_i64 (hwz y (List.mem_of_mem_take hy))⟩
theorem cell_at {cs : List Value} {o : Nat} {v : Value} (h : (cs.drop o).take 1 = [v]) : cs[o]? = some v := by
 have e := congrArg (fun l : List Value => l[0]?) h
 simpa [List.getElem?_take, List.getElem?_drop] using e
structure NodeLay (P : Program) (tn : TypeId) : Prop where
 lay : ∃ f0 f1 f2 e, P.underlying tn = some (.struct #[f0, f1, f2]) /\ (f0.offset = 0 /\ f1.offset = 1 /\ f2.offset = 2) /\ P.underlying f0.type = some (.int .i64) /\ P.underlying f1.type = some (.int .i64) /\ P.underlying f2.type = some (.slice e) /\ P.underlying e = some (.int .i64) /\
  (P.cellsOf tn = 3 /\ P.cellsOf f0.type = 1 /\ P.cellsOf f1.type = 1 /\ P.cellsOf f2.type = 1 /\ P.cellsOf e = 1)
structure FormLay (P : Program) (t : TypeId) : Prop where
 lay : ∃ g0 g1 g2 tn, P.underlying t = some (.struct #[g0, g1, g2]) /\ (g0.offset = 0 /\ g1.offset = 1 /\ g2.offset = 2) /\ P.underlying g0.type = some (.int .i64) /\ P.underlying g1.type = some (.slice tn) /\ P.underlying g2.type = some (.int .i64) /\
  (P.cellsOf t = 3 /\ P.cellsOf g0.type = 1 /\ P.cellsOf g1.type = 1 /\ P.cellsOf g2.type = 1) /\ NodeLay P tn
theorem open_node {tn : TypeId} (L : NodeLay P tn) {fuel : Nat} {cs : List Value} {y : DataW H × List MemPlace} (h : DataW.trod enc P W 0 (fun _ => true) true fuel tn cs = some y) :
  ∃ x : NodeP, NodeIn x /\ ∀ q, q < 3 -> ∃ u, cs[q]? = some u /\ RepV (oldO W) W (nodeC x q) u := by
 obtain ⟨f0, f1, f2, e, hn, ⟨o0, o1, o2⟩, h0, h1, h2, he, c, c0, c1, c2, ce⟩ := L.lay
 obtain ⟨y0, y1, y2, n, _, hl, t0, t1, t2⟩ := Go.Deep.trod_struct3 hn h
 rw [o0, c0] at t0
 rw [o1, c1] at t1
 rw [o2, c2] at t2
 obtain ⟨a, ha, _, wa⟩ := DataW.trod_int h0 t0
 obtain ⟨b, hb, _, wb⟩ := DataW.trod_int h1 t1
 obtain ⟨v, xs, hv, hr, hin⟩ := open_row h2 he ce t2
 refine ⟨⟨a, b, xs⟩, ⟨bounds_i64 wa, bounds_i64 wb, hin⟩, fun q hq => ?_⟩
 match q, hq with
 | 0, _ => exact ⟨_, cell_at ha, rfl, rfl⟩
 | 1, _ => exact ⟨_, cell_at hb, rfl, rfl⟩
 | 2, _ => exact ⟨_, cell_at hv, hr⟩
theorem op_form {t : TypeId} {v : Value} {d : DataW H} {ps : List MemPlace} (L : FormLay P t) (hval : Value.okWide P W .any 0 t v) (hd : DataW.Trod enc P W 0 (fun _ => true) true t v d ps) :
  ∃ f : FormP, FormIn f /\ EvOk (oldO W) (fun _ => undef) W (.ag (formC f)) v := by
 obtain ⟨g0, g1, g2, tn, ht, ⟨o0, o1, o2⟩, h0, h1, h2, ⟨c, c0, c1, c2⟩, LN⟩ := L.lay
 have hv : ∃ cs, v = .agg cs /\ cs.size = P.cellsOf t /\ Row.okWide P W .any 0 t cs := by
  unfold Value.okWide at hval
  rw [ht] at hval
  exact hval
 obtain ⟨cs, rfl, hsz, _⟩ := hv
 obtain ⟨fuel, hf⟩ := hd
 obtain ⟨y0, y1, y2, n, _, hl, t0, t1, t2⟩ := Go.Deep.trod_struct3 ht hf
 simp only [Value.cells] at t0 t1 t2
 rw [o0, c0] at t0
 rw [o1, c1] at t1
 rw [o2, c2] at t2
 obtain ⟨a, ha, _, wa⟩ := DataW.trod_int h0 t0
 obtain ⟨b, hb, _, wb⟩ := DataW.trod_int h2 t2
 have hnodes : ∃ (u : Value) (ns : List NodeP), (cs.toList.drop 1).take 1 = [u] /\ RepV (oldO W) W (nodesC ns) u /\ ∀ x ∈ ns, NodeIn x := by
  obtain ⟨_, _, _, _, _, _, _, _, _, _, c3, _⟩ := LN.lay
  rcases DataW.trod_slice h1 t1 with ⟨e, _⟩ | ⟨ad, len, cap, elems, rest, m, _, e, _, _, hlc, hm, hlen, hel, _, _⟩
  ·exact ⟨_, [], e, ⟨none, 0, rfl, Nat.le_refl _, Nat.zero_le _, .inl rfl⟩, by simp⟩
  ·have each : ∀ i, i < len -> ∃ x : NodeP, NodeIn x /\ ∀ q, q < 3 -> ∃ u, W.cell? (ad.add (i * 3 + q)) = some u /\ RepV (oldO W) W (nodeC x q) u := fun i hi => by
    have h3 := hel i hi
    rw [List.getElem?_eq_getElem (by omega), Option.bind_eq_some_iff] at h3
    obtain ⟨c', hc', hy'⟩ := h3
    obtain ⟨x, hx, hq⟩ := open_node LN hy'
    obtain ⟨_, hcl, hcc⟩ := World.cells?_some hc'
    refine ⟨x, hx, fun q hq3 => ?_⟩
    obtain ⟨u, hu, hr⟩ := hq q hq3
    refine ⟨u, ?_, hr⟩
    have h4 := hcc q (by omega)
    rw [hu] at h4
    have h5 : (ad.add (i * P.cellsOf tn)).add q = ad.add (i * 3 + q) := by
     rw [c3]
     unfold Addr.add
     split <;> split <;> simp_all <;> omega
    rw [h5] at h4
    exact h4
   have hch : ∃ g : Nat -> NodeP, ∀ i, i < len -> NodeIn (g i) /\ ∀ q, q < 3 -> ∃ u, W.cell? (ad.add (i * 3 + q)) = some u /\ RepV (oldO W) W (nodeC (g i) q) u :=
    ⟨fun i => if h : i < len then Classical.choose (each i h) else node0, fun i hi => by
     simp only [hi, dif_pos]
     exact Classical.choose_spec (each i hi)⟩
   obtain ⟨g, hg⟩ := hch
   refine ⟨_, (List.range len).map g, e, ?_, fun x hx => ?_⟩
   ·refine ⟨some ad, cap, by simp, by simpa using hlc, hm, ?_⟩
    rcases Nat.eq_zero_or_pos len with h00 | hpos
    ·left; simpa using h00
    ·right
     obtain ⟨u0, hu0, _⟩ := (hg 0 hpos).2 0 (by decide)
     have e0 : ad.add (0 * 3 + 0) = ad := by unfold Addr.add; split <;> simp_all
     rw [e0] at hu0
     obtain ⟨hx, hb'⟩ := addr_eta hu0
     refine ⟨ad.block, ad.off, by rw [hx], by simp [oldO, hb'], fun e q he hq => ?_⟩
     have he' : e < len := by simpa using he
     obtain ⟨u, hu, hr⟩ := (hg e he').2 q hq
     rw [hx, addr_add] at hu
     refine ⟨u, hu, ?_⟩
     have e2 : ((List.range len).map g).getD e node0 = g e := by simp [List.getD_eq_getElem?_getD, he']
     show RepV (oldO W) W (nodeC (((List.range len).map g).getD e node0) q) u
     rw [e2]; exact hr
   ·obtain ⟨i, hi, rfl⟩ := List.mem_map.1 hx
    exact (hg i (by simpa using hi)).1
 obtain ⟨u, ns, hu, hr, hin⟩ := hnodes
 refine ⟨⟨a, ns, b⟩, ⟨bounds_i64 wa, bounds_i64 wb, hin⟩, cs, rfl, hsz.trans c, fun q x hq => ?_⟩
 have g0' := cell_at ha
 have g1' := cell_at hu
 have g2' := cell_at hb
 rw [Array.getElem?_toList] at g0' g1' g2'
 match q, hq with
 | 0, hq => simp [formC] at hq; subst hq; exact ⟨_, g0', rfl, rfl⟩
 | 1, hq => simp [formC] at hq; subst hq; exact ⟨_, g1', hr⟩
 | 2, hq => simp [formC] at hq; subst hq; exact ⟨_, g2', rfl, rfl⟩
 | q + 3, hq => simp [formC] at hq
end
end Go.Sy
end
section
namespace Go.Proofs.YtocnofkagckhkaaGreatDoor
open Go.Sy
theorem nodeLay : NodeLay Tryz.prog 66 := ⟨⟨_, _, _, _, Tryz.underlying66, ⟨rfl, rfl, rfl⟩, Tryz.underlying3, Tryz.underlying3, Tryz.underlying25, Tryz.underlying3, ⟨by kernel_rfl, by kernel_rfl, by kernel_rfl, by kernel_rfl, by kernel_rfl⟩⟩⟩
theorem formLay : FormLay Tryz.prog 24 := ⟨⟨_, _, _, _, Tryz.underlying24, ⟨rfl, rfl, rfl⟩, Tryz.underlying3, Tryz.underlying22, Tryz.underlying3, ⟨by kernel_rfl, by kernel_rfl, by kernel_rfl, by kernel_rfl⟩, nodeLay⟩⟩
end Go.Proofs.YtocnofkagckhkaaGreatDoor
end
section
attribute [local instance] Go.Sy.drwNo
namespace Go.Proofs.YtocnofkagckhkaaGreatDoor
open Go.Sy Go.ChangeShapes Go.WideShapes Go.ChangeAt Go.RowKit
theorem walk_glos {P : Program} {f : FuncId} {ys : List EV} {rs : List (Nat × Res)} {args : Array Value} {W : World} (hg : ∀ i r, lk rs i = some r -> ∃ g T vs, r = .glo g T vs /\ W.heap[g]? = some (.cells vs.toArray T (0, 0))) (D : DoesF P f ys rs (sB true) []) (hsz : args.size = ys.length)
  (ha : ∀ (j : Nat) y, ys[j]? = some y -> EvOk (oldO W) (fun _ => undef) W y (args.getD j undef)) : Calls P f args W fun e w' => e = .returned (.bool true) /\ Below W.heap.size W w' := by
 refine (D (oldO W) (fun _ => undef) args W ⟨hsz, fun b => ⟨fun i h => ?_, fun h => ?_⟩, fun s x hl => ?_, fun i r hl => ?_⟩).mono ?_
 ·simp only [oldO] at h; split at h <;> cases h
 ·simp only [oldO] at h; split at h
  ·assumption
  ·cases h
 ·obtain ⟨_, _, y, hy, rfl⟩ := idx_lt ys 0 s x hl
  exact ha s y (by simpa using hy)
 ·obtain ⟨g, T, vs, rfl, h1⟩ := hg i r hl
  have hlt : g < W.heap.size := by
   refine Classical.byContradiction fun h => ?_
   rw [Array.getElem?_eq_none (by omega)] at h1; cases h1
  exact ⟨by simp only [oldO, if_pos hlt], h1⟩
 ·rintro e w' ⟨v, o', h', rfl, hs, hx⟩
  have hv : RepV o' w' (.lit (.bool true)) v := hs.slot 0 (sB true) (by rw [lk_cons, if_pos rfl])
  exact ⟨by rw [hv.1], ext_below hx⟩
theorem glo1 {W : World} {i g T : Nat} {vs : List Value} (h : W.heap[g]? = some (.cells vs.toArray T (0, 0))) : ∀ j r, lk [(i, Res.glo g T vs)] j = some r -> ∃ g T vs, r = Res.glo g T vs /\ W.heap[g]? = some (.cells vs.toArray T (0, 0)) := fun j r hl => by
 rw [lk_cons] at hl
 split at hl
 ·cases hl; exact ⟨_, _, _, rfl, h⟩
 ·simp [lk] at hl
end Go.Proofs.YtocnofkagckhkaaGreatDoor
end
section
attribute [local instance] Go.Sy.drwNo
namespace Go.Proofs.YtocnofkagckhkaaGreatDoor
open Go.Sy Go.Pu Go.ChangeShapes Go.WideShapes Go.ChangeAt Go.RowKit Go.Proofs.YtocnofkagckhkaaGreatDoor.Tr
theorem pow_laid {l : List (String × DataW Unit)} {W : World} (e : (l.filter fun x => x.1 == "internal/strconv.uint64pow10") = [("internal/strconv.uint64pow10", Lib.tabData .u64 Lib.pow10Tab)]) (h : laidMetH Tryz.prog l W) : ∃ T, W.heap[0]? = some (.cells powVs.toArray T (0, 0)) := by
 have h1 := h.filter fun x => x.1 == "internal/strconv.uint64pow10"
 rw [e, MakeChecks.laidMetH_plain _ _ _ (by kernel_rfl)] at h1
 have hg1 : Tryz.prog.globalNamed "internal/strconv.uint64pow10" = some 0 := by kernel_rfl
 have ht := Lib.tabIs_of_head (g := 0) (t := 186) (e := 166) (n := 20) hg1 (by kernel_rfl) (by kernel_rfl) (by kernel_rfl) (by kernel_rfl) (by kernel_rfl) h1
 obtain ⟨ps, ⟨g, t, cs, fuel, p, q, hg, hty, hv, hd, _, rfl⟩, _, hcell⟩ := h1
 obtain rfl := Option.some.inj (hg1.symm.trans hg)
 unfold Lib.TabIs at ht
 obtain rfl := Option.some.inj (hv.symm.trans ht)
 have hm := (hcell 0 0 (List.mem_append_left _ (List.mem_append_left _ (by simp [MemPlace.row]; decide)))).1
 obtain ⟨c, t', hc⟩ := hm
 have hv2 := hv
 unfold World.var? at hv2
 rw [hg1] at hv2
 simp only [Option.bind_some, hc, Option.some.injEq] at hv2
 refine ⟨t', ?_⟩
 rw [hc, hv2, powVs]
end Go.Proofs.YtocnofkagckhkaaGreatDoor
end
