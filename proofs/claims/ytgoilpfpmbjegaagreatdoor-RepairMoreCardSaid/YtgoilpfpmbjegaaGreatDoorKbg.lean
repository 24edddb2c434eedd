/-
 RpJ, RpK, StV, RpL, RpM, RpN, RpO, RpP, RpQ, RpR, TrL, StR, Shelf4, StP, StQ, TrT, RpS, RpV, SyW, one text.
-/
import Derived.Test.YtgoilpfpmbjegaaGreatDoorKbf
import Derived.Shelf.Spec.TrailingZeros
import Derived.Lib.LaidTab
import Derived.KernelRfl
import Derived.Shelf.Strconv.Itoa3
import Derived.Shelf.Strconv.Atoi
import Derived.Lib.SmallJoins
import Derived.Shelf.Strings.Builder1
import Derived.Shelf.LaysM
import Derived.Test.YtgoilpfpmbjegaaGreatDoorProg
import Derived.Lib.AppendStr
import Derived.Lib.UnsafeStr
import Derived.Lib.Builder
import Derived.Laws.Pointers
import Derived.Laws.Externs
import Derived.Lib.AppendIntMem
set_option linter.unusedSectionVars false
set_option linter.unusedVariables false
set_option linter.unusedSimpArgs false
section
namespace Go.Sy
variable [Drw]
section
variable {P : Program} {A : St} {Q : Exit -> St -> Prop} {o : Nat -> Tag} {h : Nat -> Value} {tm : Array Value} {w : World}
theorem Sat.frzClo (hs : Sat o h A tm w) {i s T g kk : Nat} {cs : List EV} {bk : Option Nat} {caps : Nat -> CV} (hl : lk A.rs i = some (.box T cs bk)) (hsl : lk A.sl s = some (.e (.fn g [i]))) (hc : ∀ q, q < kk -> cs[q]? = some (.c (caps q))) :
  Sat (frzO o i) h ⟨A.n, (s, .e (.c (.clo g 1 (fun _ => kk) (fun _ q => caps q)))) :: A.sl, (i, .gone) :: A.rs⟩ tm w /\ Ext o w (frzO o i) w := by
 have hk : Keep o w (frzO o i) w := fun b hb => ⟨by simp [frzO, hb], rfl⟩
 obtain ⟨b, vs, hb0, hv, hheap, htag, hsz, hcell⟩ := hs.res i _ hl
 refine ⟨⟨hs.size, fun b => ?_, fun s' x hl' => ?_, fun j r hl' => ?_⟩, ⟨Nat.le_refl _, rfl, rfl, rfl, Nat.le_refl _, fun b hb _ => ⟨by simp [frzO, hb], rfl⟩, fun b hb _ => ⟨by simp [frzO, hb], rfl⟩⟩⟩
 ·cases hob : o b with
  | no => simp [frzO, hob]
  | sh => have := (hs.tags b).2 hob; simp [frzO, hob, this]
  | hd j => have := (hs.tags b).1 j hob; simp only [frzO, hob]; split <;> exact ⟨fun _ _ => this, fun _ => this⟩
 ·rw [qQ3] at hl'
  split at hl'
  ·rename_i e
   subst e; cases hl'
   have hf : tm.getD s undef = .func (.func g) #[] ([i].map h).toArray := hs.slot s _ hsl
   show RepV _ _ _ _
   rw [hf]
   refine ⟨fun _ => b, by simp [hv, List.range_succ], fun j hj => ⟨by simp [frzO, htag], fun q hq => ?_⟩⟩
   obtain ⟨u, hu, _, hx⟩ := hcell q _ (hc q hq)
   refine ⟨u, ?_, RepV.keep hk hx⟩
   simp [World.cell?, hheap, hu]
  ·exact (hs.slot s' x hl').keep hk
 ·rw [qQ3] at hl'
  split at hl'
  ·cases hl'; trivial
  ·rename_i hne
   have ht : ∀ b, o b = .hd j -> frzO o i b = .hd j /\ w.heap[b]? = w.heap[b]? := fun b hb => ⟨by simp [frzO, hb, Ne.symm hne], rfl⟩
   exact ResOk.chg hk ht rfl (fun j hj => absurd rfl hj) (hs.res j r hl')
theorem KW.frzClo {k : List K} {e : Exit} (i s : Nat) {T g : Nat} {cs : List EV} {bk : Option Nat} (kk : Nat) (caps : Nat -> CV) (hl : lk A.rs i = some (.box T cs bk)) (hsl : lk A.sl s = some (.e (.fn g [i]))) (hc : ∀ q, q < kk -> cs[q]? = some (.c (caps q)))
  (hk : KW P k e ⟨A.n, (s, .e (.c (.clo g 1 (fun _ => kk) (fun _ q => caps q)))) :: A.sl, (i, .gone) :: A.rs⟩ Q) : KW P k e A Q :=
 KW.weaken (fun o h tm w hs => ⟨_, _, hs.frzClo hl hsl hc⟩) hk
end
end Go.Sy
namespace Go.Proofs.YtgoilpfpmbjegaaGreatDoor
open Go.Sy Go.Pu Go.Proofs.YtgoilpfpmbjegaaGreatDoor.Tr
variable [Drw]
def caC (x : CasP) : Nat -> CV := fun q => if q = 0 then .lit (.int .i64 x.state) else qZ5 x.cost
theorem within1_does (s : Int) (x : CasP) : DoesF Tryz.prog 76 [iV s, .pe 1 2 (fun _ q => caC x q) 0 0] [] (sB (!decide (qQ4 .i64 s x.state = 0))) [] := by
 refine DoesF.body _ Tryz.func76 rfl rfl rfl rfl ?_
 refine KW.goRet qQ0 qZ3 100 rfl rfl ?_ (by simp) trivial
 refine congrArg (fun b => SV.e (.c (.lit (.bool b)))) ?_
 rw [Bool.eq_iff_iff]
 simp
def cutR (f : FormP) (x : CasP) : List Int := if cutE f = 0 then cutL f x else []
theorem cutE_path {f : FormP} (h : (qC2 f).2 = 0) : cutE f = hitE (qW5 f) /\ (qC2 f).1 = qW5 f := by
 refine ⟨by rw [cutE, if_pos h], ?_⟩
 unfold qC2 at h ⊢
 split
 ·rfl
 ·rename_i hne; rw [if_neg hne] at h; exact absurd h hne
set_option maxHeartbeats 1600000 in
theorem within_does (f : FormP) (x : CasP) (hin : FormIn f) : DoesF Tryz.prog 34 [.ag (qX5 f), .ag (qV3 x)] [] (.tup [lV (cutR f x), eV (cutE f)]) [] := by
 refine DoesF.body _ Tryz.func34 rfl rfl rfl rfl ?_
 refine KW.goIf qQ0 qZ3 100 rfl (by simp only [qQ1, qQ5, true_and, and_true, qQ7]; exact hin) rfl trivial (fun h => ?_) fun h => ?_
 ·have h1 : (qC2 f).2 ≠ 0 := by simpa [qQ1] using h
  refine KW.go qQ0 qZ3 100 rfl (by simp) ?_
  refine KW.conv 4 (qZ5 []) rfl ⟨rfl, rfl⟩ ?_
  refine KW.fin [] rfl rfl ?_ trivial
  have e : cutE f = (qC2 f).2 := by rw [cutE, if_neg h1]
  rw [cutR, e, if_neg h1]
  simp only [qQ1]; rfl
 have h1 : (qC2 f).2 = 0 := by simpa [qQ1] using h
 obtain ⟨e1, e2⟩ := cutE_path h1
 rw [cutR, e1]
 cases he : decide (hitE (qW5 f) = 0) with
 | false =>
   have h2 : hitE (qW5 f) ≠ 0 := of_decide_eq_false he
   simp only [qQ1, qX2, e2, h1]
   refine KW.goIf qQ0 qZ3 100 rfl (by simp) rfl trivial (fun h => ?_) fun h => absurd h ?_
   ·refine KW.go qQ0 qZ3 100 rfl (by simp) ?_
    refine KW.conv 4 (qZ5 []) rfl ⟨rfl, rfl⟩ ?_
    refine KW.fin [] rfl rfl ?_ trivial
    rw [if_neg h2]
    simp only [qQ2]; rfl
   ·simp only [qQ2]
    simp [h2]
 | true =>
   have h2 : hitE (qW5 f) = 0 := of_decide_eq_true he
   rw [if_pos h2, h2]
   simp only [qQ1, qX2, e2, h1]
   refine KW.go qQ0 (FnsOk.nil Tryz.prog) 100 rfl (by simp) ?_
   refine KW.call0 (allO_does (qW5 f) h2) (qQ9 Tryz.func74 rfl rfl) [] [(0, 19)] [] (.inl rfl) rfl rfl rfl rfl rfl trivial ⟨⟨_, _, rfl, trivial, .conv (CVEq.refl _)⟩, trivial⟩ rfl trivial rfl ⟨.inl rfl, trivial⟩ rfl rfl (.inl rfl) ?_
   refine KW.goIf qQ0 (FnsOk.nil Tryz.prog) 100 rfl (by simp) rfl trivial (fun h => absurd h (by simp)) fun h => ?_
   refine KW.go qQ0 (FnsOk.nil Tryz.prog) 100 rfl (by simp) ?_
   refine KW.frzClo 3 26 2 (caC x) rfl rfl (fun q hq => ?_) ?_
   ·match q, hq with
    | 0, _ => rfl
    | 1, _ => rfl
   refine KW.call0 (delf_does (m := 1) (ks := fun _ => 2) (caps := fun _ q => caC x q) (p := fun s => !decide (qQ4 .i64 s x.state = 0)) (hitL (qW5 f)) ⟨qQ9 Tryz.func76 rfl rfl, fun s _ => within1_does s x⟩) (qQ9 Tryz.func75 rfl rfl) [(0, 19)] [] [] (.inl rfl) rfl rfl rfl rfl rfl trivial
    ⟨⟨_, _, rfl, trivial, (show Mt _ _ _ (EV.ren [(0, 19)] (.r 0)) (.r 0) from .same)⟩, ⟨_, _, rfl, trivial, .conv (CVEq.refl _)⟩, trivial⟩ rfl ⟨rfl, trivial⟩ rfl trivial rfl rfl (.inl rfl) ?_
   refine KW.goRet qQ0 (FnsOk.nil Tryz.prog) 100 rfl rfl ?_ (by simp) trivial
   have e : ((hitL (qW5 f)).filter fun x_1 => !(!decide (qQ4 .i64 x_1 x.state = 0))) = cutL f x := by
    unfold cutL
    congr 1
    funext s
    rw [Bool.not_not]
   rw [<-e]; rfl
end Go.Proofs.YtgoilpfpmbjegaaGreatDoor
end
section
namespace Go.Proofs.YtgoilpfpmbjegaaGreatDoor
open Go.Sy Go.Pu Go.Proofs.YtgoilpfpmbjegaaGreatDoor.Tr
variable [Drw]
set_option maxHeartbeats 1600000 in
theorem rcuts57_does (f : FormP) (x : CasP) (hin : FormIn f) : DoesF Tryz.prog 41 [.ag (qX5 f), .ag (qV3 x)] [] (.tup [lV (cutR f x), iV (cutE f)]) [] := by
 refine DoesF.body _ Tryz.func41 rfl rfl rfl rfl ?_
 refine KW.goIf qQ0 qZ3 100 rfl (by simp only [qQ1, qQ5, true_and, and_true]; exact hin) rfl trivial (fun h => ?_) fun h => ?_
 ·have h1 : (qC2 f).2 ≠ 0 := by simpa [qQ1] using h
  refine KW.go qQ0 qZ3 100 rfl (by simp) ?_
  refine KW.conv 4 (qZ5 []) rfl ⟨rfl, rfl⟩ ?_
  refine KW.fin [] rfl rfl ?_ trivial
  have e : cutE f = (qC2 f).2 := by rw [cutE, if_neg h1]
  rw [cutR, e, if_neg h1]
  simp only [qQ1]; rfl
 have h1 : (qC2 f).2 = 0 := by simpa [qQ1] using h
 obtain ⟨e1, e2⟩ := cutE_path h1
 rw [cutR, e1]
 simp only [qQ1, qX2, e2, h1]
 refine KW.goIf qQ0 qZ3 100 rfl (by simp) rfl trivial (fun h => ?_) fun h => ?_
 ·have h2 : hitE (qW5 f) ≠ 0 := by simpa using h
  refine KW.go qQ0 qZ3 100 rfl (by simp) ?_
  refine KW.conv 4 (qZ5 []) rfl ⟨rfl, rfl⟩ ?_
  refine KW.fin [] rfl rfl ?_ trivial
  rw [if_neg h2]
  simp only [qQ2]; rfl
 have h2 : hitE (qW5 f) = 0 := by simpa using h
 rw [if_pos h2, h2]
 simp only [qQ2, h2, if_true]
 have hcl : cutL f x = (hitL (qW5 f)).filter fun s => decide (qQ4 .i64 s x.state = 0) := rfl
 rw [hcl]
 have hHl : (hitL (qW5 f)).length ≤ 1024 := by
  have := hitE_zero h2
  rw [this.2.2]
  exact (all_fam _ Fam.zero this.2.1).len
 generalize hitL (qW5 f) = H at *
 refine KW.go qQ0 qZ3 100 rfl (by simp) ?_
 refine KW.nilO 9 9 3 (qZ5 []) rfl rfl rfl ?_
 refine KW.goLpR qQ0 qZ3 100 rfl (I := fun q : Nat => ⟨Tryz.f41.ntmps, [(3, .e (.r 3)), (9, .e (.r 9)), (28, .e (lV H)), (29, sI H.length), (30, sI q)], [(3, .box 27 [iV x.state, lV x.cost] none), (9, .own 3 (qZ5 ((H.take q).filter fun s => decide (qQ4 .i64 s x.state = 0))))]⟩)
  (R := fun q => q ≤ H.length) (m := fun q => H.length - q) 0 [(3, 3), (9, 9)] rfl rfl ⟨rfl, rfl, rfl, rfl, rfl, trivial⟩ (by simp) (Nat.zero_le _) ⟨rfl, qA3 _ (by simp), trivial⟩ ?_
 intro q hq0
 refine KW.goIf qQ0 qZ3 100 rfl (by simp) rfl trivial (fun h => ?_) fun h => ?_
 ·have hq : q < H.length := by simp at h; omega
  have hg : H.getD (Int.toNat (q : Int)) 0 = H[q] := by simp [List.getD_eq_getElem?_getD, hq]
  have htk : H.take (q + 1) = H.take q ++ [H[q]] := List.take_succ_eq_append_getElem hq
  have hfl : ((H.take q).filter fun s => decide (qQ4 .i64 s x.state = 0)).length ≤ q := Nat.le_trans (List.length_filter_le _ _) (by simp; omega)
  refine KW.goIf qQ0 qZ3 100 rfl (by simp; omega) rfl trivial (fun h => ?_) fun h => ?_
  ·have hb : decide (qQ4 .i64 H[q] x.state = 0) = true := by
    rw [hg] at h; simpa using h
   refine KW.goToR qQ0 qZ3 100 rfl (q + 1) [(3, 3), (9, 42)] rfl rfl ⟨rfl, rfl, rfl, rfl, rfl, trivial⟩ (by simp [inK]; omega) ⟨by omega, by omega⟩ ⟨rfl, qC3 _ ?_, trivial⟩
   rw [htk, List.filter_append, List.filter_cons, if_pos hb, hg]; rfl
  ·have hb : ¬ decide (qQ4 .i64 H[q] x.state = 0) = true := by
    rw [hg] at h; simpa using h
   refine KW.goToR qQ0 qZ3 100 rfl (q + 1) [(3, 3), (9, 9)] rfl rfl ⟨rfl, rfl, rfl, rfl, rfl, trivial⟩ (by simp [inK]; omega) ⟨by omega, by omega⟩ ⟨rfl, qA3 _ ?_, trivial⟩
   rw [htk, List.filter_append, List.filter_cons, if_neg hb]; simp
 ·have hq : q = H.length := by simp at h; omega
  subst hq
  rw [List.take_length]
  refine KW.goOut qQ0 qZ3 100 rfl (by simp) ?_
  refine KW.frz 9 [9] rfl rfl rfl ?_
  exact KW.goRet qQ0 qZ3 100 rfl rfl rfl (by simp) trivial
def R3 : Fns := (34, fFX (fun f x => .tup [lV (cutR f x), eV (cutE f)]) fun f _ => FormIn f) ::
 (41, fFX (fun f x => .tup [lV (cutR f x), iV (cutE f)]) fun f _ => FormIn f) ::
 (11, fFX (fun f x => .tup [iV (cheV f x).1, iV (cheV f x).2.1, eV (cheV f x).2.2]) fun f _ => FormIn f) ::
 (13, fFX (fun f x => .tup [iV (cheV f x).1, iV (cheV f x).2.1, iV (cheV f x).2.2]) fun f _ => FormIn f) ::
 R2
theorem qZ0 : FnsOk Tryz.prog R3 := .cons (.cons (.cons (.cons (qZ3) Tryz.func13 rfl rfl (fFX_ok fun f x h => rcheapest57_does f x h)) Tryz.func11 rfl rfl (fFX_ok fun f x h => cheapest57_does f x h)) Tryz.func41 rfl rfl (fFX_ok fun f x h => rcuts57_does f x h)) Tryz.func34 rfl rfl (fFX_ok fun f x h => within_does f x h)
theorem least_sum {c : Int -> Int} (h : ∀ s, -1 ≤ c s /\ c s ≤ 1048576) : ∀ (l : List Int), -(l.length : Int) ≤ (l.map c).sum /\ (l.map c).sum ≤ l.length * 1048576
 | [] => by simp
 | x :: l => by
   have h1 := h x
   have h2 := least_sum h l
   simp only [List.map_cons, List.sum_cons, List.length_cons]
   omega
theorem cut_pack {f : FormP} {x : CasP} {n : Nat} (ok : CasOk f x n) (hc : cutE f = 0) : qV0 (cutL f x) = 0 /\ (packF [] 0 (minS (cutL f x))).length ≤ 1024 /\ ∀ t ∈ packF [] 0 (minS (cutL f x)), inN x.cost.length t := by
 obtain ⟨c1, c2, _, _⟩ := cut_facts ok hc
 have hv : Val (cutL f x) := fun t ht => (c1 t ht).1.1
 refine ⟨listE_zero c2 hv, ?_, fun t ht => ?_⟩
 ·have h1 := packF_length (minS (cutL f x)) [] 0
  have h2 := qB0 (cutL f x)
  simp only [List.length_nil, Nat.zero_add] at h1
  omega
 ·rcases pack_mem _ _ _ ht with h | h
  ·cases h
  ·rw [ok.len]
   exact (c1 t ((mem_minS hv t).1 h).1).1
set_option maxHeartbeats 1600000 in
theorem lower57_does (f : FormP) (x : CasP) (hin : FormIn f) : DoesF Tryz.prog 12 [.ag (qX5 f), .ag (qV3 x)] [] (.tup [iV (lowV f x), eV (lowE f x)]) [] := by
 refine DoesF.body _ Tryz.func12 rfl rfl rfl rfl ?_
 refine KW.goIf qQ0 qZ0 100 rfl (by simp only [qQ1, qQ5, qQ2, qQ8, true_and, and_true, qQ7]; exact hin) rfl trivial (fun h => ?_) fun h => ?_
 ·have h1 : casE f x ≠ 0 := by simpa [qQ1] using h
  have e : lowE f x = casE f x := by rw [lowE, if_neg h1]
  refine KW.goRet qQ0 qZ0 100 rfl rfl ?_ (by simp) trivial
  rw [lowV, e, if_neg h1]; simp only [qQ1, qQ2]; rfl
 have h1 : casE f x = 0 := by simpa [qQ1] using h
 obtain ⟨n, ok⟩ := casE_ok h1
 have h0 := (pathE_ok ok.pe).1
 refine KW.goIf qQ0 qZ0 100 rfl (by simp only [qQ1, qQ5, qQ2, qQ8, true_and, and_true, qQ7]; exact hin) rfl trivial (fun h => ?_) fun h => ?_
 ·have h2 : cutE f ≠ 0 := by simpa [qQ1] using h
  have e : lowE f x = cutE f := by rw [lowE, if_pos h1, if_neg h2]
  refine KW.goRet qQ0 qZ0 100 rfl rfl ?_ (by simp) trivial
  rw [lowV, e, if_neg h2]; simp only [qQ1]; rfl
 have h2 : cutE f = 0 := by simpa [qQ1] using h
 simp only [qQ1, qQ2, qX2, qX0]
 refine KW.goIf qQ0 qZ0 100 rfl (by simp only [qQ1, qQ5, true_and, and_true, qQ7]; exact ⟨hin, h0⟩) rfl trivial (fun h => ?_) fun h => ?_
 ·have h3 : posE f ≠ 0 := by simpa [qQ1] using h
  have e : lowE f x = posE f := by rw [lowE, if_pos h1, if_pos h2]
  refine KW.goRet qQ0 qZ0 100 rfl rfl ?_ (by simp) trivial
  rw [lowV, e, if_neg h3]; simp only [qQ1]; rfl
 have h3 : posE f = 0 := by simpa [qQ1] using h
 have e : lowE f x = 0 := by rw [lowE, if_pos h1, if_pos h2, h3]
 rw [lowV, e, if_pos rfl]
 obtain ⟨p1, p2, p3⟩ := cut_pack ok h2
 have hcb := ok.costB
 have hcR : cutR f x = cutL f x := by rw [cutR, if_pos h2]
 have hpk : packS (cutL f x) = packF [] 0 (minS (cutL f x)) := rfl
 simp only [qQ1, qX2, hcR]
 refine KW.goIf qQ0 qZ0 100 rfl (by simp) rfl trivial (fun h => absurd h ?_) fun h => ?_
 ·simp only [qQ2, p1]
  simp
 clear h
 simp only [qQ2, p1, if_true, hpk]
 have hlb := least_sum (c := qK3 x) fun s => qD4 (c := cst x) (B := 1048576) ok.cost (by decide) s x.cost.length
 have hl1 := fun s => qD4 (c := cst x) (B := 1048576) ok.cost (by decide) s x.cost.length
 generalize packF [] 0 (minS (cutL f x)) = L at *
 refine KW.goLpR qQ0 qZ0 100 rfl (I := fun q : Nat => ⟨Tryz.f12.ntmps, [(3, .e (.r 3)), (11, sI ((L.take q).map (qK3 x)).sum), (42, .e (lV L)), (43, sI L.length), (44, sI q)], [(3, .box 27 [iV x.state, lV x.cost] none)]⟩)
  (R := fun q => q ≤ L.length) (m := fun q => L.length - q) 0 [(3, 3)] rfl rfl ⟨rfl, by rw [List.take_zero]; rfl, rfl, rfl, rfl, trivial⟩ (by simp) (Nat.zero_le _) ⟨rfl, trivial⟩ ?_
 intro q hq0
 have hbq := hlb (L.take q)
 refine KW.goIf qQ0 qZ0 100 rfl (by simp) rfl trivial (fun h => ?_) fun h => ?_
 ·have hq : q < L.length := by simp at h; omega
  have hg : L.getD (Int.toNat (q : Int)) 0 = L[q] := by simp [List.getD_eq_getElem?_getD, hq]
  have htk : L.take (q + 1) = L.take q ++ [L[q]] := List.take_succ_eq_append_getElem hq
  have hse : ((L.take (q + 1)).map (qK3 x)).sum = ((L.take q).map (qK3 x)).sum + qK3 x L[q] := by
   rw [htk, List.map_append, List.sum_append]; simp
  have hlq := hl1 L[q]
  rw [show qK4 (cst x) L[q] x.cost.length = qK3 x L[q] from rfl] at hlq
  have hlt : (L.take q).length = q := by simp; omega
  rw [hlt] at hbq
  refine KW.goToR qQ0 qZ0 100 rfl (q + 1) [(3, 3)] rfl rfl ⟨rfl, ?_, rfl, rfl, rfl, trivial⟩ ?_ ⟨by omega, by omega⟩ ⟨rfl, trivial⟩
  ·rw [hse]; simp only [qQ2, qX0, hg]; rfl
  ·simp only [qQ2, qQ8, qX0, hg]
   generalize ((L.take q).map (qK3 x)).sum = U at hbq ⊢
   simp [hcb, inK, hq]
   omega
 ·have hq : q = L.length := by simp at h; omega
  subst hq
  rw [List.take_length]
  refine KW.goOut qQ0 qZ0 100 rfl (by simp) ?_
  exact KW.goRet qQ0 qZ0 100 rfl rfl rfl (by simp) trivial
set_option maxHeartbeats 1600000 in
theorem rlower57_does (f : FormP) (x : CasP) (hin : FormIn f) : DoesF Tryz.prog 14 [.ag (qX5 f), .ag (qV3 x)] [] (.tup [iV (lowV f x), iV (lowE f x)]) [] := by
 refine DoesF.body _ Tryz.func14 rfl rfl rfl rfl ?_
 refine KW.goIf qQ0 qZ0 100 rfl (by simp only [qQ1, qQ5, qQ2, qQ8, true_and, and_true]; exact hin) rfl trivial (fun h => ?_) fun h => ?_
 ·have h1 : casE f x ≠ 0 := by simpa [qQ1] using h
  have e : lowE f x = casE f x := by rw [lowE, if_neg h1]
  refine KW.goRet qQ0 qZ0 100 rfl rfl ?_ (by simp) trivial
  rw [lowV, e, if_neg h1]; simp only [qQ1, qQ2]; rfl
 have h1 : casE f x = 0 := by simpa [qQ1] using h
 obtain ⟨n, ok⟩ := casE_ok h1
 have h0 := (pathE_ok ok.pe).1
 refine KW.goIf qQ0 qZ0 100 rfl (by simp only [qQ1, qQ5, qQ2, qQ8, true_and, and_true]; exact hin) rfl trivial (fun h => ?_) fun h => ?_
 ·have h2 : cutE f ≠ 0 := by simpa [qQ1] using h
  have e : lowE f x = cutE f := by rw [lowE, if_pos h1, if_neg h2]
  refine KW.goRet qQ0 qZ0 100 rfl rfl ?_ (by simp) trivial
  rw [lowV, e, if_neg h2]; simp only [qQ1]; rfl
 have h2 : cutE f = 0 := by simpa [qQ1] using h
 have e : lowE f x = posE f := by rw [lowE, if_pos h1, if_pos h2]
 have hz := cut_zero ok h2
 obtain ⟨p1, p2, p3⟩ := cut_pack ok h2
 have hcb := ok.costB
 have hcR : cutR f x = cutL f x := by rw [cutR, if_pos h2]
 have hpk : packS (cutL f x) = packF [] 0 (minS (cutL f x)) := rfl
 rw [lowV, e]
 simp only [qQ1, qQ2, qX2, qX0, hcR]
 refine KW.go qQ0 qZ0 100 rfl (by simp) ?_
 simp only [qQ2, p1, if_true, hpk]
 have hlb := least_sum (c := qK3 x) fun s => qD4 (c := cst x) (B := 1048576) ok.cost (by decide) s x.cost.length
 have hl1 := fun s => qD4 (c := cst x) (B := 1048576) ok.cost (by decide) s x.cost.length
 generalize packF [] 0 (minS (cutL f x)) = L at *
 refine KW.goLpR qQ0 qZ0 100 rfl (I := fun q : Nat => ⟨Tryz.f14.ntmps, [(3, .e (.r 3)), (11, sI ((L.take q).map (qK3 x)).sum), (34, .e (lV L)), (35, sI L.length), (36, sI q)], [(3, .box 27 [iV x.state, lV x.cost] none)]⟩)
  (R := fun q => q ≤ L.length /\ (0 : Int) ∉ L.take q) (m := fun q => L.length - q) 0 [(3, 3)] rfl rfl ⟨rfl, by rw [List.take_zero]; rfl, rfl, rfl, rfl, trivial⟩ (by simp) ⟨Nat.zero_le _, by simp⟩ ⟨rfl, trivial⟩ ?_
 rintro q ⟨hq0, hno⟩
 have hbq := hlb (L.take q)
 refine KW.goIf qQ0 qZ0 100 rfl (by simp) rfl trivial (fun h => ?_) fun h => ?_
 ·have hq : q < L.length := by simp at h; omega
  have hg : L.getD (Int.toNat (q : Int)) 0 = L[q] := by simp [List.getD_eq_getElem?_getD, hq]
  have htk : L.take (q + 1) = L.take q ++ [L[q]] := List.take_succ_eq_append_getElem hq
  have hse : ((L.take (q + 1)).map (qK3 x)).sum = ((L.take q).map (qK3 x)).sum + qK3 x L[q] := by
   rw [htk, List.map_append, List.sum_append]; simp
  have hlq := hl1 L[q]
  rw [show qK4 (cst x) L[q] x.cost.length = qK3 x L[q] from rfl] at hlq
  have hlt : (L.take q).length = q := by simp; omega
  rw [hlt] at hbq
  have hp3 := p3 L[q] (List.getElem_mem hq)
  refine KW.goIf qQ0 qZ0 100 rfl (by simp; omega) rfl trivial (fun h => ?_) fun h => ?_
  ·have hL0 : L[q] = 0 := by rw [hg] at h; simpa using h
   have hne : posE f ≠ 0 := hz.1 (hL0 ▸ List.getElem_mem hq)
   have e17 : posE f = 17 := by
    unfold posE at hne ⊢
    split
    ·rfl
    ·rename_i hn2; exact absurd (if_neg hn2) hne
   refine KW.goOutR qQ0 qZ0 100 rfl (by simp) ?_
   refine KW.goRet qQ0 qZ0 100 rfl rfl ?_ (by simp) trivial
   rw [if_neg hne, e17]; rfl
  ·have hL0 : ¬ L[q] = 0 := by rw [hg] at h; simpa using h
   refine KW.goToR qQ0 qZ0 100 rfl (q + 1) [(3, 3)] rfl rfl ⟨rfl, ?_, rfl, rfl, rfl, trivial⟩ ?_ ⟨⟨by omega, ?_⟩, by omega⟩ ⟨rfl, trivial⟩
   ·rw [hse]; simp only [qQ2, qX0, hg]; rfl
   ·simp only [qQ2, qQ8, qX0, hg]
    generalize ((L.take q).map (qK3 x)).sum = U at hbq ⊢
    simp [hcb, inK, hq, hp3]
    omega
   ·rw [htk, List.mem_append, List.mem_singleton]
    exact fun h' => h'.elim hno fun h' => hL0 h'.symm
 ·have hq : q = L.length := by simp at h; omega
  subst hq
  rw [List.take_length] at hno
  have hp0 : posE f = 0 := Classical.byContradiction fun hne => hno (hz.2 hne)
  rw [List.take_length, hp0, if_pos rfl]
  refine KW.goOut qQ0 qZ0 100 rfl (by simp) ?_
  exact KW.goRet qQ0 qZ0 100 rfl rfl rfl (by simp) trivial
end Go.Proofs.YtgoilpfpmbjegaaGreatDoor
end
section
attribute [local instance] Go.Sy.drwNo
namespace Go.Pu
open Go.Sy
def headD (l : List Int) : Int := l.headD (-1)
theorem elemsN_none (s : Int) : ∀ k, (∀ i, i < k -> bit s i = false) -> elemsN s k = []
 | 0, _ => rfl
 | k + 1, h => by rw [qD5, elemsN_none s k fun i hi => h i (by omega), h k (by omega)]; rfl
theorem elemsN_head (s : Int) (c : Nat) (h : ∀ i, i < c -> bit s i = false) (hc : bit s c = true) : ∀ k, c < k -> headD (elemsN s k) = c
 | 0, hk => by omega
 | k + 1, hk => by
   rw [qD5]
   by_cases e : c = k
   ·subst e
    rw [elemsN_none s c h, hc]; rfl
   ·have := elemsN_head s c h hc k (by omega)
    unfold headD at this ⊢
    cases hl : elemsN s k with
    | nil => rw [hl] at this; simp at this
    | cons x r => rw [hl] at this; simpa using this
def leaP (s : Int) : Int := if cutS s = 0 then -1 else (Lib.ctz 64 (cutS s).toNat : Nat)
theorem lea_head (s : Int) : leaP s = headD (qW1 s) := by
 have h := qJ3.1 (valid_cutS s)
 have hbc : ∀ i, i < 24 -> bit s i = bit (cutS s) i := fun i hi => by rw [bit_cutS, decide_eq_true hi, Bool.and_true]
 unfold leaP
 split
 ·rename_i h0
  rw [qW1, elemsN_none s 24 fun i hi => by rw [hbc i hi, h0]; simp]; rfl
 ·rename_i h0
  obtain ⟨n, hn⟩ := Int.eq_ofNat_of_zero_le h.1
  rw [hn, Int.toNat_natCast]
  have hn0 : n ≠ 0 := fun e => h0 (by rw [hn, e]; rfl)
  obtain ⟨m, hm, hk⟩ := Lib.ctzFrom_spec 64 n (by omega) (by omega)
  have hc : Lib.ctz 64 n = Lib.ctzFrom 64 n := by rw [Lib.ctz, if_neg hn0]
  rw [hc]
  generalize Lib.ctzFrom 64 n = c at hm hk
  have hlt : c < 24 := by
   refine Classical.byContradiction fun hge => ?_
   have h1 : 2 ^ 24 ≤ 2 ^ c := Nat.pow_le_pow_right (by decide) (by omega)
   have h2 : 2 ^ c * 1 ≤ 2 ^ c * (2 * m + 1) := Nat.mul_le_mul_left _ (by omega)
   omega
  have hbn : ∀ i, i < 24 -> bit s i = n.testBit i := fun i hi => by rw [hbc i hi, hn, bit_nat (by omega)]
  refine (elemsN_head s c (fun i hi => ?_) ?_ 24 hlt).symm
  ·rw [hbn i (by omega), hm, Nat.testBit_two_pow_mul, decide_eq_false (by omega), Bool.false_and]
  ·rw [hbn c hlt, hm, Nat.testBit_two_pow_mul, decide_eq_true (Nat.le_refl c), Bool.true_and, Nat.sub_self]
   simp
end Go.Pu
namespace Go.Proofs.YtgoilpfpmbjegaaGreatDoor
open Go.Sy Go.Pu Go.Shelf Go.Proofs.YtgoilpfpmbjegaaGreatDoor.Tr
def layTZ_ren : Go.Shelf.Ren := ⟨fun | 27 => 125 | 28 => 144 | 29 => 145 | n => n,
 fun | 0 => 0 | 3 => 3 | 4 => 4 | 5 => 5 | 22 => 158 | 25 => 140 | 27 => 156 | 53 => 168 | 54 => 169 | n => n,
 fun n => n⟩
theorem layTZ : Go.Proofs.Lays7.n27 Tryz.prog layTZ_ren := {
 mixed := by kernel_rfl
 f27 := Tryz.func125.trans (congrArg some (by kernel_rfl))
 f28 := Tryz.func144.trans (congrArg some (by kernel_rfl))
 f29 := Tryz.func145.trans (congrArg some (by kernel_rfl))
 t0 := by kernel_rfl
 a0 := fun w => by kernel_rfl
 z0 := fun w => by kernel_rfl
 v0 := fun w => by kernel_rfl
 i0 := by kernel_rfl
 t3 := by kernel_rfl
 a3 := fun w => by kernel_rfl
 z3 := fun w => by kernel_rfl
 v3 := fun w => by kernel_rfl
 i3 := by kernel_rfl
 t4 := by kernel_rfl
 a4 := fun w => by kernel_rfl
 z4 := fun w => by kernel_rfl
 v4 := fun w => by kernel_rfl
 i4 := by kernel_rfl
 t5 := by kernel_rfl
 a5 := fun w => by kernel_rfl
 z5 := fun w => by kernel_rfl
 v5 := fun w => by kernel_rfl
 i5 := by kernel_rfl
 t22 := by kernel_rfl
 a22 := fun w => by kernel_rfl
 z22 := fun w => by kernel_rfl
 v22 := fun w => by kernel_rfl
 i22 := by kernel_rfl
 t25 := by kernel_rfl
 a25 := fun w => by kernel_rfl
 z25 := fun w => by kernel_rfl
 v25 := fun w => by kernel_rfl
 i25 := by kernel_rfl
 t27 := by kernel_rfl
 a27 := fun w => by kernel_rfl
 z27 := fun w => by kernel_rfl
 v27 := fun w => by kernel_rfl
 i27 := by kernel_rfl
 t53 := by kernel_rfl
 a53 := fun w => by kernel_rfl
 z53 := fun w => by kernel_rfl
 v53 := fun w => by kernel_rfl
 i53 := by kernel_rfl
 t54 := by kernel_rfl
 a54 := fun w => by kernel_rfl
 z54 := fun w => by kernel_rfl
 g0 := by kernel_rfl
 g1 := by kernel_rfl }
def tabVs : List Value := Lib.deBruijn64tab.map fun n : Nat => Value.int .u8 (n : Int)
def gloTZ (T : Nat) : List (Nat × Res) := [(0, .glo 1 T tabVs)]
theorem tz_does (x : Nat) (hx : x < 18446744073709551616) (T : Nat) : DoesF Tryz.prog 125 [.c (.lit (.int .u64 x))] (gloTZ T) (sI (Lib.ctz 64 x : Nat)) [] := by
 intro o h args w hs
 have h1 : args.getD 0 undef = .int .u64 x := (show RepV o w (.lit (.int .u64 x)) _ from hs.slot 0 (.e (.c (.lit (.int .u64 x)))) rfl).1
 have hargs := args1 (by exact hs.size) h1
 subst hargs
 have hg : o 1 = .sh /\ w.heap[1]? = some (.cells tabVs.toArray T (0, 0)) := hs.res 0 (.glo 1 T tabVs) rfl
 have hT : TabAt (layTZ_ren.g 1) Lib.deBruijn64tab w := fun j hj => by
  have e : w.cell? ⟨1, j, none⟩ = tabVs[j]? := by simp [World.cell?, hg.2]
  show w.cell? ⟨1, j, none⟩ = _
  rw [e, tabVs, List.getElem?_map, List.getElem?_eq_getElem hj]
  simp [List.getD_eq_getElem?_getD, hj]
 refine (Any7.bits_TrailingZeros layTZ x hx w fun _ => hT).mono ?_
 rintro e w' ⟨rfl, rfl⟩
 refine ⟨_, o, h, rfl, ⟨rfl, hs.tags, fun s x hl => ?_, fun i r hl => by simp [lk] at hl⟩, Ext.refl o _⟩
 rw [qQ3] at hl
 split at hl
 ·rename_i e; subst e; cases hl; exact ⟨rfl, rfl⟩
 ·simp [lk] at hl
theorem least05_does (s : Int) (T : Nat) : DoesF Tryz.prog 99 [iV s] (gloTZ T) (sI (leaP s)) [] := by
 refine DoesF.body _ Tryz.func99 rfl rfl rfl rfl ?_
 have hv := qJ3.1 (valid_cutS s)
 obtain ⟨n, hn⟩ := Int.eq_ofNat_of_zero_le hv.1
 refine KW.goIf qQ0 qZ0 100 rfl (by simp) rfl trivial (fun h => ?_) fun h => ?_
 ·have h1 : cutS s = 0 := by simpa using h
  refine KW.goRet qQ0 qZ0 100 rfl rfl ?_ (by simp) trivial
  rw [leaP, if_pos h1]; rfl
 have h1 : ¬ cutS s = 0 := by simpa using h
 refine KW.go qQ0 qZ0 100 rfl (by simp [inK]; omega) ?_
 rw [show leaP s = (Lib.ctz 64 n : Nat) by rw [leaP, if_neg h1, hn, Int.toNat_natCast]]
 refine KW.call0 (tz_does n (by omega) T) (qQ9 Tryz.func125 rfl rfl) [(0, 0)] [] [] (.inl rfl) rfl rfl rfl rfl rfl trivial ⟨⟨_, _, rfl, trivial, .conv (by rw [hn]; exact CVEq.refl _)⟩, trivial⟩ rfl ⟨rfl, trivial⟩ rfl trivial rfl rfl (.inl rfl) ?_
 exact KW.goRet qQ0 qZ0 100 rfl rfl rfl (by simp) trivial
end Go.Proofs.YtgoilpfpmbjegaaGreatDoor
end
section
attribute [local instance] Go.Sy.drwNo
namespace Go.Proofs.YtgoilpfpmbjegaaGreatDoor
open Go.Sy Go.Pu Go.Proofs.YtgoilpfpmbjegaaGreatDoor.Tr
def cuC (yes no : Int) : Nat -> CV := fun q => if q = 0 then .lit (.int .i64 yes) else .lit (.int .i64 no)
abbrev cuV (yes no : Int) : EV := .ag (cubeL (yes, no))
theorem rpgrow1_does (x yes no : Int) : DoesF Tryz.prog 97 [iV x, .pe 1 2 (fun _ q => cuC yes no q) 0 0] [] (sB (qQ4 .i64 x yes == 0)) [] := by
 refine DoesF.body _ Tryz.func97 rfl rfl rfl rfl ?_
 exact KW.goRet qQ0 qZ3 100 rfl rfl rfl (by simp) trivial
theorem rpgrow2_does (x yes no : Int) : DoesF Tryz.prog 98 [iV x, .pe 1 2 (fun _ q => cuC yes no q) 0 0] [] (sB (qK9 .i64 x no == 0)) [] := by
 refine DoesF.body _ Tryz.func98 rfl rfl rfl rfl ?_
 exact KW.goRet qQ0 qZ3 100 rfl rfl rfl (by simp) trivial
def gQR (x : CasP) (set total : Int) (cuts : List Int) (c : Int) (b T : Nat) : List (Nat × Res) := [(0, .box 101 [iV x.state, lV x.cost, iV set, iV total, lV cuts, iV 0, .c (.lit (.slice none 0 0)), iV 0, iV c] (some b)), (1, .glo 1 T tabVs)]
def gQS (x : CasP) (set total : Int) (cuts : List Int) (c : Int) (b : Nat) : List (Nat × Res) := [(0, .box 101 [iV x.state, lV x.cost, iV set, iV total, lV cuts, iV 0, .c (.lit (.slice none 0 0)), iV 0, iV c] (some b))]
def gQok (x : CasP) (set total : Int) (cuts : List Int) (T f : Nat) : Prop := ∀ (yes no c : Int) (b : Nat), freeC yes no < f -> 0 ≤ c -> c ≤ 4096 -> DoesF Tryz.prog 56 [.r 0, cuV yes no] (gQR x set total cuts c b T) (.tup [trV (qA5 cuts (enB x cuts total) f yes no c).1, eV (qA5 cuts (enB x cuts total) f yes no c).2.2]) (gQS x set total cuts (qA5 cuts (enB x cuts total) f yes no c).2.1 b)
theorem growQ_cnt (cuts : List Int) (en : Int -> Int -> Bool) : ∀ (f : Nat) (yes no c : Int), c ≤ 4096 -> c ≤ (qA5 cuts en f yes no c).2.1 /\ ((qA5 cuts en f yes no c).2.2 = 0 -> (qA5 cuts en f yes no c).2.1 ≤ 4096)
 | 0, _, _, c, hc => ⟨Int.le_refl _, fun _ => hc⟩
 | f + 1, yes, no, c, hc => by
   rw [qA5]
   by_cases hbig : 4096 < c + 1
   ·rw [if_pos hbig]; exact ⟨by simp only; omega, fun h => by cases h⟩
   rw [if_neg hbig]
   cases hy : inYes cuts yes with
   | some i => exact ⟨by simp only; omega, fun _ => by simp only; omega⟩
   | none =>
   dsimp only
   cases hp : en yes no with
   | true => rw [if_pos (rfl : true = true)]; exact ⟨by simp only; omega, fun _ => by simp only; omega⟩
   | false =>
   simp only [Bool.false_eq_true, if_false]
   cases ho : offNo cuts no with
   | none => exact ⟨by simp only; omega, fun h => by cases h⟩
   | some i =>
     dsimp only
     have ia := growQ_cnt cuts en f yes (ior .i64 no (Go.Pu.one (qV2 cuts yes i))) (c + 1) (by omega)
     generalize qA5 cuts en f yes (ior .i64 no (Go.Pu.one (qV2 cuts yes i))) (c + 1) = A at *
     by_cases a0 : A.2.2 = 0
     ·rw [if_pos a0]
      have ib := growQ_cnt cuts en f (ior .i64 yes (Go.Pu.one (qV2 cuts yes i))) no A.2.1 (ia.2 a0)
      generalize qA5 cuts en f (ior .i64 yes (Go.Pu.one (qV2 cuts yes i))) no A.2.1 = B at *
      exact ⟨by simp only; omega, fun h => ib.2 h⟩
     ·rw [if_neg a0]
      exact ⟨by simp only; omega, fun h => absurd h a0⟩
theorem lea_low {s : Int} (hs : qQ6 s = true) (h : s ≠ 0) : leaP s = lowB s := by
 rw [lea_head]
 exact headE_low hs h
set_option maxHeartbeats 3200000 in
theorem rpgrow_does (x : CasP) (set total : Int) (cuts : List Int) (T : Nat) (hx : CostB x) {n : Nat} (hn24 : n ≤ 24) (hcn : ∀ x ∈ cuts, inN n x) (hcl : cuts.length ≤ 1024) (f : Nat) (hf : gQok x set total cuts T f) : gQok x set total cuts T (f + 1) := by
 intro yes no c b hfree hc0 hc1
 have hcv : ∀ x ∈ cuts, qQ6 x = true := fun x hx => (hcn x hx).1
 refine DoesF.bodyC qQ0 _ Tryz.func56 rfl rfl rfl rfl ?_
 refine KW.goIf qQ0 qZ3 100 rfl (by simp [inK]; omega) rfl trivial (fun h => ?_) fun h => ?_
 ·have h1 : 4096 < c + 1 := by simpa using h
  rw [qA5, if_pos h1]
  refine KW.go qQ0 qZ3 100 rfl (by simp) ?_
  refine KW.convB 4 1 Tr.no.ks rfl rfl ⟨rfl, rfl⟩ ?_
  exact KW.finC [(0, 0)] rfl rfl rfl (by exact ⟨rfl, trivial⟩)
 have h1 : ¬ 4096 < c + 1 := by simpa using h
 rw [qA5, if_neg h1]
 refine KW.go qQ0 qZ3 100 rfl (by simp) ?_
 refine KW.callV0 (indexP_does (m := 1) (ks := fun _ => 2) (caps := fun _ => cuC yes no) (p := fun x => qQ4 .i64 x yes == 0) cuts ⟨qQ9 Tryz.func97 rfl rfl, fun x _ => rpgrow1_does x yes no⟩) (qQ9 Tryz.func86 rfl rfl) [3] (.inl rfl) rfl rfl rfl rfl rfl trivial
  ⟨⟨_, _, rfl, trivial, .conv (CVEq.refl _)⟩, ⟨_, _, rfl, trivial, .lfn rfl ?_⟩, trivial⟩ rfl (.inr trivial) ?_
 ·intro j hj
  obtain rfl : j = 0 := by omega
  refine ⟨3, _, _, _, rfl, rfl, rfl, rfl, fun q hq => ?_⟩
  match q, hq with
  | 0, _ => rfl
  | 1, _ => rfl
 refine KW.goIf qQ0 qZ3 100 rfl (by simp) rfl trivial (fun h => ?_) fun h => ?_
 ·cases hy : inYes cuts yes with
  | none =>
    exfalso
    rw [idx_yes0 hy] at h
    exact absurd h (by decide)
  | some i =>
    rw [idx_yes hy]
    refine KW.go qQ0 qZ3 100 rfl (by simp) ?_
    refine KW.convB 4 1 (Tr.lf i).ks rfl rfl ⟨rfl, rfl⟩ ?_
    exact KW.finC [(0, 0)] rfl rfl rfl (by exact ⟨rfl, trivial⟩)
 have hy : inYes cuts yes = none := by
  cases hy : inYes cuts yes with
  | none => rfl
  | some i => rw [idx_yes hy] at h; simp at h
 rw [hy]
 clear h
 dsimp only
 refine KW.goD qQ0 qZ3 rfl 100 rfl (by decide +kernel) rfl (by simp) ?_ ?_
 ·simp only [qQ2, qQ8, qX0]
  simp [hx, hcl]
 simp only [qQ2, qX0]
 cases he : enB x cuts total yes no with
 | true =>
   rw [if_pos (rfl : true = true)]
   refine KW.goIf qQ0 qZ3 100 rfl (by simp) rfl trivial (fun h => ?_) fun h => absurd h (by simp)
   refine KW.go qQ0 qZ3 100 rfl (by simp) ?_
   refine KW.convB 4 1 (Tr.lf (-1)).ks rfl rfl ⟨rfl, rfl⟩ ?_
   exact KW.finC [(0, 0)] rfl rfl rfl (by exact ⟨rfl, trivial⟩)
 | false =>
 simp only [Bool.false_eq_true, if_false]
 refine KW.goIf qQ0 qZ3 100 rfl (by simp) rfl trivial (fun h => absurd h (by simp)) fun h => ?_
 clear h
 refine KW.go qQ0 qZ3 100 rfl (by simp) ?_
 refine KW.callV0 (indexP_does (m := 1) (ks := fun _ => 2) (caps := fun _ => cuC yes no) (p := fun x => qK9 .i64 x no == 0) cuts ⟨qQ9 Tryz.func98 rfl rfl, fun x _ => rpgrow2_does x yes no⟩) (qQ9 Tryz.func86 rfl rfl) [3] (.inl rfl) rfl rfl rfl rfl rfl trivial
  ⟨⟨_, _, rfl, trivial, .conv (CVEq.refl _)⟩, ⟨_, _, rfl, trivial, .lfn rfl ?_⟩, trivial⟩ rfl (.inr trivial) ?_
 ·intro j hj
  obtain rfl : j = 0 := by omega
  refine ⟨3, _, _, _, rfl, rfl, rfl, rfl, fun q hq => ?_⟩
  match q, hq with
  | 0, _ => rfl
  | 1, _ => rfl
 refine KW.goIf qQ0 qZ3 100 rfl (by simp) rfl trivial (fun h => ?_) fun h => ?_
 ·cases ho : offNo cuts no with
  | some i => exfalso; rw [idx_off ho] at h; simp at h; omega
  | none =>
    refine KW.go qQ0 qZ3 100 rfl (by simp) ?_
    refine KW.convB 4 1 Tr.no.ks rfl rfl ⟨rfl, rfl⟩ ?_
    exact KW.finC [(0, 0)] rfl rfl rfl (by exact ⟨rfl, trivial⟩)
 cases ho : offNo cuts no with
 | none => exfalso; rw [idx_off0 ho] at h; exact absurd h (by decide)
 | some i =>
   rw [idx_off ho]
   dsimp only
   obtain ⟨g1, g2⟩ := offNo_some ho
   have hm := getD_mem g1
   obtain ⟨v1, v2, v3⟩ := next_spec hn24 hcn hy ho
   have fa := free_no (yes := yes) (no := no) (by omega) v2 v3
   have fb := free_yes (yes := yes) (no := no) (by omega) v2 v3
   have hgi : cuts.getD (Int.toNat (i : Int)) 0 = cuts.getD i 0 := by rw [Int.toNat_natCast]
   have hz : qQ4 .i64 (cuts.getD i 0) yes ≠ 0 := inYes_none hy _ hm
   have hlea : leaP (qQ4 .i64 (cuts.getD i 0) yes) = (qV2 cuts yes i : Int) := lea_low (qD7 (hcv _ hm)) hz
   have hsh := shl_rng24 (v := (qV2 cuts yes i : Int)) (by omega) (by omega)
   clear h
   refine KW.phases qQ0 qZ3 rfl 100 rfl (by simp) ?_
   refine KA.phase qQ0 qZ3 [0, 1, 2, 3, 4, 5, 6, 7, 8, 9, 10] 11 (by decide +kernel) (by decide +kernel) rfl rfl ?_ (cs := [#[true, true, true, true, true, true, true, true, true, true, true, false, false]]) (by decide +kernel) ?_ (ds := []) (by decide +kernel) (fun L h => nomatch h)
   ·simp
    omega
   intro L hL
   obtain rfl : L = #[true, true, true, true, true, true, true, true, true, true, true, false, false] := by simpa using hL
   refine ⟨_, rfl, ?_⟩
   refine KW.dupG 1 300 rfl ?_
   refine KW.call0 (least05_does (qQ4 .i64 (cuts.getD (Int.toNat (i : Int)) 0) yes) T) (qQ9 Tryz.func99 rfl rfl) [(0, 300)] [] [] (.inl rfl) rfl rfl rfl rfl rfl trivial ⟨⟨_, _, rfl, trivial, .conv (CVEq.refl _)⟩, trivial⟩ rfl ⟨rfl, trivial⟩ rfl trivial rfl rfl (.inl rfl) ?_
   rw [hgi, hlea]
   refine KW.go qQ0 qZ3 10 rfl (by simp) (KW.stop ⟨rfl, ?_⟩)
   refine KA.phase qQ0 qZ3 [12] 13 (by decide +kernel) (by decide +kernel) rfl rfl (by simp) (cs := []) (by decide +kernel) (fun L h => nomatch h) (ds := [#[true, true, true, true, true, true, true, true, true, true, true, true, true]]) (by decide +kernel) ?_
   intro L hL
   obtain rfl : L = #[true, true, true, true, true, true, true, true, true, true, true, true, true] := by simpa using hL
   have hA := growQ_cnt cuts (enB x cuts total) f yes (ior .i64 no (Go.Pu.one (qV2 cuts yes i))) (c + 1) (by omega)
   have D := hf yes (ior .i64 no (Go.Pu.one (qV2 cuts yes i))) (c + 1) b (by omega) (by omega) (by omega)
   generalize hAe : (qA5 cuts (enB x cuts total) f yes (ior .i64 no (Go.Pu.one (qV2 cuts yes i))) (c + 1)) = A at *
   refine KW.go qQ0 qZ3 100 rfl (by simp) ?_
   refine KW.join (I := fun _ : Unit => ⟨Tryz.f56.ntmps, [(0, .e (.r 0)), (3, .e (.r 3)), (4, .e (.r 4)), (8, sI (qV2 cuts yes i : Int)), (9, .e (.r 9)), (10, .e (eV A.2.2))], [(0, .box 101 [iV x.state, lV x.cost, iV set, iV total, lV cuts, iV 0, .c (.lit (.slice none 0 0)), iV 0, iV (A.2.1)] (some b)), (1, .glo 1 T tabVs), (3, .box 92 [iV yes, iV no] none), (4, .box 31 [iV 0, .c (.lit (.slice none 0 0)), iV 0] none), (9, .box 31 [iV (A.1).v, .c (A.1).ks, iV (A.1).r] none)]⟩) (R := fun _ => True) ?_ ?_
   ·refine KW.phases qQ0 qZ3 rfl 100 rfl (by simp) ?_
    refine KA.phase qQ0 qZ3 [0, 1, 2, 3, 4, 5, 6, 7, 8, 13] 9 (by decide +kernel) (by decide +kernel) rfl rfl ?_ (cs := [#[true, true, true, true, true, true, true, true, true, false, false, false, false, false, false, false], #[true, true, true, true, true, true, true, true, true, false, false, false, false, true, false, false]]) (by decide +kernel) ?_ (ds := []) (by decide +kernel) (fun L h => nomatch h)
    ·simp [inK, qC0]; omega
    intro L hL
    simp only [List.mem_cons, List.not_mem_nil, or_false] at hL
    rcases hL with rfl | rfl
    ·refine ⟨_, rfl, ?_⟩
     refine KW.dupG 1 301 rfl ?_
     refine KW.call0 D (qQ9 Tryz.func56 rfl rfl) [(0, 0), (1, 301)] [(0, 0)] [] (.inl rfl) rfl rfl rfl rfl rfl trivial
      ⟨⟨_, _, rfl, trivial, (show Mt _ _ _ (EV.ren [(0, 0), (1, 301)] (.r 0)) (.r 0) from .same)⟩, ⟨_, _, rfl, trivial, (show Mt _ _ _ (EV.ren [(0, 0), (1, 301)] (cuV yes (ior .i64 no (Go.Pu.one (qV2 cuts yes i))))) (cuV yes (ior .i64 no (Go.Pu.one (qV2 cuts yes i)))) from .same)⟩, trivial⟩ rfl ⟨rfl, rfl, trivial⟩ rfl ⟨.inr ⟨rfl, .inr ⟨_, _, _, _, b, rfl, rfl⟩⟩, trivial⟩ rfl rfl (.inl rfl) ?_
     refine KW.go qQ0 qZ3 10 rfl (by simp) (KW.stop ⟨rfl, ?_⟩)
     refine KA.phase qQ0 qZ3 [10, 11, 12, 13] 14 (by decide +kernel) (by decide +kernel) rfl rfl (by simp) (cs := [#[true, true, true, true, true, true, true, true, true, true, true, true, false, true, false, false], #[true, true, true, true, true, true, true, true, true, true, true, true, true, true, false, false]]) (by decide +kernel) ?_ (ds := []) (by decide +kernel) (fun L h => nomatch h)
     intro L hL
     simp only [List.mem_cons, List.not_mem_nil, or_false] at hL
     rcases hL with rfl | rfl
     ·refine ⟨_, rfl, KW.go qQ0 qZ3 10 rfl (by simp) (KW.stop ⟨rfl, ?_⟩)⟩
      refine KA.phase qQ0 qZ3 [12, 15] 16 (by decide +kernel) (by decide +kernel) rfl rfl (by simp) (cs := []) (by decide +kernel) (fun L h => nomatch h) (ds := [#[true, true, true, true, true, true, true, true, true, true, true, true, true, true, true, true]]) (by decide +kernel) ?_
      intro L hL
      obtain rfl : L = #[true, true, true, true, true, true, true, true, true, true, true, true, true, true, true, true] := by simpa using hL
      exact KW.goToR qQ0 qZ3 100 rfl () [(0, 0), (1, 1), (3, 3), (4, 4), (9, 9)] rfl rfl ⟨rfl, rfl, rfl, rfl, rfl, rfl, trivial⟩ (by simp) trivial ⟨rfl, rfl, rfl, rfl, rfl, trivial⟩
     ·refine ⟨_, rfl, KW.go qQ0 qZ3 10 rfl (by simp) (KW.stop ⟨rfl, ?_⟩)⟩
      refine KA.phase qQ0 qZ3 [15] 16 (by decide +kernel) (by decide +kernel) rfl rfl (by simp) (cs := []) (by decide +kernel) (fun L h => nomatch h) (ds := [#[true, true, true, true, true, true, true, true, true, true, true, true, true, true, true, true]]) (by decide +kernel) ?_
      intro L hL
      obtain rfl : L = #[true, true, true, true, true, true, true, true, true, true, true, true, true, true, true, true] := by simpa using hL
      exact KW.goToR qQ0 qZ3 100 rfl () [(0, 0), (1, 1), (3, 3), (4, 4), (9, 9)] rfl rfl ⟨rfl, rfl, rfl, rfl, rfl, rfl, trivial⟩ (by simp) trivial ⟨rfl, rfl, rfl, rfl, rfl, trivial⟩
    ·refine ⟨_, rfl, ?_⟩
     refine KW.dupG 1 301 rfl ?_
     refine KW.call0 D (qQ9 Tryz.func56 rfl rfl) [(0, 0), (1, 301)] [(0, 0)] [] (.inl rfl) rfl rfl rfl rfl rfl trivial
      ⟨⟨_, _, rfl, trivial, (show Mt _ _ _ (EV.ren [(0, 0), (1, 301)] (.r 0)) (.r 0) from .same)⟩, ⟨_, _, rfl, trivial, (show Mt _ _ _ (EV.ren [(0, 0), (1, 301)] (cuV yes (ior .i64 no (Go.Pu.one (qV2 cuts yes i))))) (cuV yes (ior .i64 no (Go.Pu.one (qV2 cuts yes i)))) from .same)⟩, trivial⟩ rfl ⟨rfl, rfl, trivial⟩ rfl ⟨.inr ⟨rfl, .inr ⟨_, _, _, _, b, rfl, rfl⟩⟩, trivial⟩ rfl rfl (.inl rfl) ?_
     refine KW.go qQ0 qZ3 10 rfl (by simp) (KW.stop ⟨rfl, ?_⟩)
     refine KA.phase qQ0 qZ3 [10, 11, 12] 14 (by decide +kernel) (by decide +kernel) rfl rfl (by simp) (cs := [#[true, true, true, true, true, true, true, true, true, true, true, true, false, true, false, false], #[true, true, true, true, true, true, true, true, true, true, true, true, true, true, false, false]]) (by decide +kernel) ?_ (ds := []) (by decide +kernel) (fun L h => nomatch h)
     intro L hL
     simp only [List.mem_cons, List.not_mem_nil, or_false] at hL
     rcases hL with rfl | rfl
     ·refine ⟨_, rfl, KW.go qQ0 qZ3 10 rfl (by simp) (KW.stop ⟨rfl, ?_⟩)⟩
      refine KA.phase qQ0 qZ3 [12, 15] 16 (by decide +kernel) (by decide +kernel) rfl rfl (by simp) (cs := []) (by decide +kernel) (fun L h => nomatch h) (ds := [#[true, true, true, true, true, true, true, true, true, true, true, true, true, true, true, true]]) (by decide +kernel) ?_
      intro L hL
      obtain rfl : L = #[true, true, true, true, true, true, true, true, true, true, true, true, true, true, true, true] := by simpa using hL
      exact KW.goToR qQ0 qZ3 100 rfl () [(0, 0), (1, 1), (3, 3), (4, 4), (9, 9)] rfl rfl ⟨rfl, rfl, rfl, rfl, rfl, rfl, trivial⟩ (by simp) trivial ⟨rfl, rfl, rfl, rfl, rfl, trivial⟩
     ·refine ⟨_, rfl, KW.go qQ0 qZ3 10 rfl (by simp) (KW.stop ⟨rfl, ?_⟩)⟩
      refine KA.phase qQ0 qZ3 [15] 16 (by decide +kernel) (by decide +kernel) rfl rfl (by simp) (cs := []) (by decide +kernel) (fun L h => nomatch h) (ds := [#[true, true, true, true, true, true, true, true, true, true, true, true, true, true, true, true]]) (by decide +kernel) ?_
      intro L hL
      obtain rfl : L = #[true, true, true, true, true, true, true, true, true, true, true, true, true, true, true, true] := by simpa using hL
      exact KW.goToR qQ0 qZ3 100 rfl () [(0, 0), (1, 1), (3, 3), (4, 4), (9, 9)] rfl rfl ⟨rfl, rfl, rfl, rfl, rfl, rfl, trivial⟩ (by simp) trivial ⟨rfl, rfl, rfl, rfl, rfl, trivial⟩
   rintro _ _
   refine KW.goIf qQ0 qZ3 100 rfl (by simp) rfl trivial (fun h => ?_) fun h => ?_
   ·have h5 : A.2.2 ≠ 0 := by simpa using h
    rw [if_neg h5]
    refine KW.go qQ0 qZ3 100 rfl (by simp) ?_
    refine KW.convB 4 1 Tr.no.ks rfl rfl ⟨rfl, rfl⟩ ?_
    exact KW.finC [(0, 0)] rfl rfl rfl (by exact ⟨rfl, trivial⟩)
   have h5 : A.2.2 = 0 := by simpa using h
   rw [if_pos h5]
   have hA2 := hA.2 h5
   have D2 := hf (ior .i64 yes (Go.Pu.one (qV2 cuts yes i))) no A.2.1 b (by omega) (by omega) hA2
   clear D
   generalize hBe : (qA5 cuts (enB x cuts total) f (ior .i64 yes (Go.Pu.one (qV2 cuts yes i))) no A.2.1) = B at *
   refine KW.go qQ0 qZ3 100 rfl (by simp) ?_
   refine KW.join (I := fun _ : Unit => ⟨Tryz.f56.ntmps, [(4, .e (.r 4)), (8, sI (qV2 cuts yes i : Int)), (9, .e (.r 9)), (11, .e (.r 11)), (10, .e (eV B.2.2))], [(0, .box 101 [iV x.state, lV x.cost, iV set, iV total, lV cuts, iV 0, .c (.lit (.slice none 0 0)), iV 0, iV (B.2.1)] (some b)), (1, .glo 1 T tabVs), (4, .box 31 [iV 0, .c (.lit (.slice none 0 0)), iV 0] none), (9, .box 31 [iV (A.1).v, .c (A.1).ks, iV (A.1).r] none), (11, .box 31 [iV (B.1).v, .c (B.1).ks, iV (B.1).r] none)]⟩) (R := fun _ => True) ?_ ?_
   ·refine KW.phases qQ0 qZ3 rfl 100 rfl (by simp) ?_
    refine KA.phase qQ0 qZ3 [0, 1, 2, 3, 4, 5, 6, 7, 8, 13] 9 (by decide +kernel) (by decide +kernel) rfl rfl ?_ (cs := [#[true, true, true, true, true, true, true, true, true, false, false, false, false, false, false, false], #[true, true, true, true, true, true, true, true, true, false, false, false, false, true, false, false]]) (by decide +kernel) ?_ (ds := []) (by decide +kernel) (fun L h => nomatch h)
    ·simp [inK, qC0]; omega
    intro L hL
    simp only [List.mem_cons, List.not_mem_nil, or_false] at hL
    rcases hL with rfl | rfl
    ·refine ⟨_, rfl, ?_⟩
     refine KW.dupG 1 301 rfl ?_
     refine KW.call0 D2 (qQ9 Tryz.func56 rfl rfl) [(0, 0), (1, 301)] [(0, 0)] [] (.inl rfl) rfl rfl rfl rfl rfl trivial
      ⟨⟨_, _, rfl, trivial, (show Mt _ _ _ (EV.ren [(0, 0), (1, 301)] (.r 0)) (.r 0) from .same)⟩, ⟨_, _, rfl, trivial, (show Mt _ _ _ (EV.ren [(0, 0), (1, 301)] (cuV (ior .i64 yes (Go.Pu.one (qV2 cuts yes i))) no)) (cuV (ior .i64 yes (Go.Pu.one (qV2 cuts yes i))) no) from .same)⟩, trivial⟩ rfl ⟨rfl, rfl, trivial⟩ rfl ⟨.inr ⟨rfl, .inr ⟨_, _, _, _, b, rfl, rfl⟩⟩, trivial⟩ rfl rfl (.inl rfl) ?_
     refine KW.go qQ0 qZ3 10 rfl (by simp) (KW.stop ⟨rfl, ?_⟩)
     refine KA.phase qQ0 qZ3 [10, 11, 12, 13] 14 (by decide +kernel) (by decide +kernel) rfl rfl (by simp) (cs := [#[true, true, true, true, true, true, true, true, true, true, true, true, false, true, false, false], #[true, true, true, true, true, true, true, true, true, true, true, true, true, true, false, false]]) (by decide +kernel) ?_ (ds := []) (by decide +kernel) (fun L h => nomatch h)
     intro L hL
     simp only [List.mem_cons, List.not_mem_nil, or_false] at hL
     rcases hL with rfl | rfl
     ·refine ⟨_, rfl, KW.go qQ0 qZ3 10 rfl (by simp) (KW.stop ⟨rfl, ?_⟩)⟩
      refine KA.phase qQ0 qZ3 [12, 15] 16 (by decide +kernel) (by decide +kernel) rfl rfl (by simp) (cs := []) (by decide +kernel) (fun L h => nomatch h) (ds := [#[true, true, true, true, true, true, true, true, true, true, true, true, true, true, true, true]]) (by decide +kernel) ?_
      intro L hL
      obtain rfl : L = #[true, true, true, true, true, true, true, true, true, true, true, true, true, true, true, true] := by simpa using hL
      exact KW.goToR qQ0 qZ3 100 rfl () [(0, 0), (1, 1), (4, 4), (9, 9), (11, 11)] rfl rfl ⟨rfl, rfl, rfl, rfl, rfl, trivial⟩ (by simp) trivial ⟨rfl, rfl, rfl, rfl, rfl, trivial⟩
     ·refine ⟨_, rfl, KW.go qQ0 qZ3 10 rfl (by simp) (KW.stop ⟨rfl, ?_⟩)⟩
      refine KA.phase qQ0 qZ3 [15] 16 (by decide +kernel) (by decide +kernel) rfl rfl (by simp) (cs := []) (by decide +kernel) (fun L h => nomatch h) (ds := [#[true, true, true, true, true, true, true, true, true, true, true, true, true, true, true, true]]) (by decide +kernel) ?_
      intro L hL
      obtain rfl : L = #[true, true, true, true, true, true, true, true, true, true, true, true, true, true, true, true] := by simpa using hL
      exact KW.goToR qQ0 qZ3 100 rfl () [(0, 0), (1, 1), (4, 4), (9, 9), (11, 11)] rfl rfl ⟨rfl, rfl, rfl, rfl, rfl, trivial⟩ (by simp) trivial ⟨rfl, rfl, rfl, rfl, rfl, trivial⟩
    ·refine ⟨_, rfl, ?_⟩
     refine KW.dupG 1 301 rfl ?_
     refine KW.call0 D2 (qQ9 Tryz.func56 rfl rfl) [(0, 0), (1, 301)] [(0, 0)] [] (.inl rfl) rfl rfl rfl rfl rfl trivial
      ⟨⟨_, _, rfl, trivial, (show Mt _ _ _ (EV.ren [(0, 0), (1, 301)] (.r 0)) (.r 0) from .same)⟩, ⟨_, _, rfl, trivial, (show Mt _ _ _ (EV.ren [(0, 0), (1, 301)] (cuV (ior .i64 yes (Go.Pu.one (qV2 cuts yes i))) no)) (cuV (ior .i64 yes (Go.Pu.one (qV2 cuts yes i))) no) from .same)⟩, trivial⟩ rfl ⟨rfl, rfl, trivial⟩ rfl ⟨.inr ⟨rfl, .inr ⟨_, _, _, _, b, rfl, rfl⟩⟩, trivial⟩ rfl rfl (.inl rfl) ?_
     refine KW.go qQ0 qZ3 10 rfl (by simp) (KW.stop ⟨rfl, ?_⟩)
     refine KA.phase qQ0 qZ3 [10, 11, 12] 14 (by decide +kernel) (by decide +kernel) rfl rfl (by simp) (cs := [#[true, true, true, true, true, true, true, true, true, true, true, true, false, true, false, false], #[true, true, true, true, true, true, true, true, true, true, true, true, true, true, false, false]]) (by decide +kernel) ?_ (ds := []) (by decide +kernel) (fun L h => nomatch h)
     intro L hL
     simp only [List.mem_cons, List.not_mem_nil, or_false] at hL
     rcases hL with rfl | rfl
     ·refine ⟨_, rfl, KW.go qQ0 qZ3 10 rfl (by simp) (KW.stop ⟨rfl, ?_⟩)⟩
      refine KA.phase qQ0 qZ3 [12, 15] 16 (by decide +kernel) (by decide +kernel) rfl rfl (by simp) (cs := []) (by decide +kernel) (fun L h => nomatch h) (ds := [#[true, true, true, true, true, true, true, true, true, true, true, true, true, true, true, true]]) (by decide +kernel) ?_
      intro L hL
      obtain rfl : L = #[true, true, true, true, true, true, true, true, true, true, true, true, true, true, true, true] := by simpa using hL
      exact KW.goToR qQ0 qZ3 100 rfl () [(0, 0), (1, 1), (4, 4), (9, 9), (11, 11)] rfl rfl ⟨rfl, rfl, rfl, rfl, rfl, trivial⟩ (by simp) trivial ⟨rfl, rfl, rfl, rfl, rfl, trivial⟩
     ·refine ⟨_, rfl, KW.go qQ0 qZ3 10 rfl (by simp) (KW.stop ⟨rfl, ?_⟩)⟩
      refine KA.phase qQ0 qZ3 [15] 16 (by decide +kernel) (by decide +kernel) rfl rfl (by simp) (cs := []) (by decide +kernel) (fun L h => nomatch h) (ds := [#[true, true, true, true, true, true, true, true, true, true, true, true, true, true, true, true]]) (by decide +kernel) ?_
      intro L hL
      obtain rfl : L = #[true, true, true, true, true, true, true, true, true, true, true, true, true, true, true, true] := by simpa using hL
      exact KW.goToR qQ0 qZ3 100 rfl () [(0, 0), (1, 1), (4, 4), (9, 9), (11, 11)] rfl rfl ⟨rfl, rfl, rfl, rfl, rfl, trivial⟩ (by simp) trivial ⟨rfl, rfl, rfl, rfl, rfl, trivial⟩
   rintro _ _
   refine KW.go qQ0 qZ3 100 rfl (by simp) ?_
   refine KW.frz 110 [110] rfl rfl rfl ?_
   refine KW.go qQ0 qZ3 100 rfl (by simp) ?_
   refine KW.convB 4 1 (Tr.two (qV2 cuts yes i : Int) A.1 B.1).ks rfl rfl ?_ ?_
   ·exact two_rows _ _ _
   exact KW.finC [(0, 0)] rfl rfl rfl (by exact ⟨rfl, trivial⟩)
theorem rpgrow_all (x : CasP) (set total : Int) (cuts : List Int) (T : Nat) (hx : CostB x) {n : Nat} (hn24 : n ≤ 24) (hcn : ∀ x ∈ cuts, inN n x) (hcl : cuts.length ≤ 1024) : ∀ f, gQok x set total cuts T f
 | 0 => fun _ _ _ _ h => absurd h (Nat.not_lt_zero _)
 | f + 1 => rpgrow_does x set total cuts T hx hn24 hcn hcl f (rpgrow_all x set total cuts T hx hn24 hcn hcl f)
end Go.Proofs.YtgoilpfpmbjegaaGreatDoor
end
section
attribute [local instance] Go.Sy.drwNo
namespace Go.Proofs.YtgoilpfpmbjegaaGreatDoor
open Go.Sy Go.Pu Go.Proofs.YtgoilpfpmbjegaaGreatDoor.Tr
theorem growS_rng (cuts : List Int) (en : Int -> Int -> Bool) : ∀ (f : Nat) (yes no l : Int), (growS cuts en f yes no l).2 ≤ l /\ (0 < l -> -(f : Int) - 1 ≤ (growS cuts en f yes no l).2) /\ (l ≤ 0 -> l - 1 ≤ (growS cuts en f yes no l).2)
 | 0, _, _, l => by
   rw [growS]; exact ⟨Int.le_refl _, fun h => by simp only; omega, fun h => by simp only; omega⟩
 | f + 1, yes, no, l => by
   rw [growS]
   by_cases hbig : l - 1 < 0
   ·rw [if_pos hbig]; exact ⟨by simp only; omega, fun h => by simp only; omega, fun h => by simp only; omega⟩
   rw [if_neg hbig]
   cases hy : inYes cuts yes with
   | some i => exact ⟨by simp only; omega, fun h => by simp only; omega, fun h => by simp only; omega⟩
   | none =>
   dsimp only
   cases hp : en yes no with
   | true => rw [if_pos (rfl : true = true)]; exact ⟨by simp only; omega, fun h => by simp only; omega, fun h => by simp only; omega⟩
   | false =>
   simp only [Bool.false_eq_true, if_false]
   cases ho : offNo cuts no with
   | none => exact ⟨by simp only; omega, fun h => by simp only; omega, fun h => by simp only; omega⟩
   | some i =>
     dsimp only
     have ia := growS_rng cuts en f yes (ior .i64 no (Go.Pu.one (qV2 cuts yes i))) (l - 1)
     generalize growS cuts en f yes (ior .i64 no (Go.Pu.one (qV2 cuts yes i))) (l - 1) = A at *
     have ib := growS_rng cuts en f (ior .i64 yes (Go.Pu.one (qV2 cuts yes i))) no A.2
     generalize growS cuts en f (ior .i64 yes (Go.Pu.one (qV2 cuts yes i))) no A.2 = B at *
     obtain ⟨a1, a2, a3⟩ := ia
     obtain ⟨b1, b2, b3⟩ := ib
     refine ⟨by omega, fun h => ?_, fun h => by omega⟩
     by_cases hl1 : 0 < l - 1
     ·have := a2 hl1
      by_cases hA : 0 < A.2
      ·have := b2 hA; omega
      ·have := b3 (by omega); omega
     ·have := a3 (by omega)
      by_cases hA : 0 < A.2
      ·have := b2 hA; omega
      ·have := b3 (by omega); omega
theorem ag_refl (xs : List CV) : EvEq (.ag xs) (.ag xs) := ⟨rfl, fun q x y hx hy => by rw [hx] at hy; cases hy; exact CVEq.refl _⟩
def growF57 (x : CasP) (set total : Int) (cuts : List Int) (f : Nat) : List EV -> Option (SV × Prop)
 | [.ag xs, .ag rs, .ag [.lit (.int .i64 yes), .lit (.int .i64 no)], .c (.lit (.int .i64 l))] => some (.tup [trV (growS cuts (enB x cuts total) f yes no l).1, iV (growS cuts (enB x cuts total) f yes no l).2], EvEq (.ag xs) (.ag (qV3 x)) /\ EvEq (.ag rs) (.ag (repC ⟨set, total, cuts, .no⟩)) /\ freeC yes no < f /\ -100 ≤ l /\ l ≤ 4096)
 | _ => none
def gSok (x : CasP) (set total : Int) (cuts : List Int) (f : Nat) : Prop := ∀ (yes no l : Int), freeC yes no < f -> -100 ≤ l -> l ≤ 4096 -> DoesF Tryz.prog 57 [.ag (qV3 x), .ag (repC ⟨set, total, cuts, .no⟩), cuV yes no, iV l] [] (.tup [trV (growS cuts (enB x cuts total) f yes no l).1, iV (growS cuts (enB x cuts total) f yes no l).2]) []
theorem growF57_ok {x : CasP} {set total : Int} {cuts : List Int} {f : Nat} (h : gSok x set total cuts f) : ∀ ys y φ, growF57 x set total cuts f ys = some (y, φ) -> φ -> DoesF Tryz.prog 57 ys [] y [] := by
 intro ys y φ he hφ
 unfold growF57 at he
 split at he
 ·simp only [Option.some.injEq, Prod.mk.injEq] at he
  obtain ⟨rfl, rfl⟩ := he
  obtain ⟨h1, h2, h3, h4, h5⟩ := hφ
  refine DoesF.conv ?_ (h _ _ _ h3 h4 h5)
  exact ⟨h1, h2, ag_refl _, CVEq.refl _, trivial⟩
 ·cases he
set_option maxHeartbeats 6400000 in
theorem rgrow57_does (x : CasP) (set total : Int) (cuts : List Int) (hx : CostB x) (hst : inN x.cost.length x.state) {n : Nat} (hn : n = x.cost.length) (hcn : ∀ t ∈ cuts, inN n t) (hcl : cuts.length ≤ 1024) (f : Nat) (hf25 : f ≤ 25) (hf : gSok x set total cuts f) : gSok x set total cuts (f + 1) := by
 intro yes no l hfree hl0 hl1
 have hn24 : n ≤ 24 := hn ▸ hx.len
 have hcv : ∀ x ∈ cuts, qQ6 x = true := fun x hx => (hcn x hx).1
 have T_ok : FnsOk Tryz.prog ((57, growF57 x set total cuts f) :: (100, fI (fun s => sI (headE (qW1 s))) fun _ => True) :: R2) :=
  .cons (.cons qZ3 Tryz.func100 rfl rfl (fI_ok fun s _ => rleastE_does s)) Tryz.func57 rfl rfl (growF57_ok hf)
 refine DoesF.bodyC qQ0 _ Tryz.func57 rfl rfl rfl rfl ?_
 refine KW.goIf qQ0 T_ok 100 rfl (by simp [inK]; omega) rfl trivial (fun h => ?_) fun h => ?_
 ·have h1 : l - 1 < 0 := by simpa using h
  rw [growS, if_pos h1]
  refine KW.go qQ0 T_ok 100 rfl (by simp) ?_
  refine KW.convB 8 1 Tr.no.ks rfl rfl ⟨rfl, rfl⟩ ?_
  exact KW.finC [] rfl rfl rfl trivial
 have h1 : ¬ l - 1 < 0 := by simpa using h
 rw [growS, if_neg h1]
 refine KW.goLpR qQ0 T_ok 100 rfl (I := fun q : Nat => ⟨Tryz.f57.ntmps, [(3, sI (l - 1)), (4, .e (.r 4)), (5, .e (.r 5)), (6, .e (.r 6)), (8, .e (.r 8)), (25, .e (lV cuts)), (26, sI cuts.length), (27, sI q)], [(4, .box 27 [iV x.state, lV x.cost] none), (5, .box 33 [iV set, iV total, lV cuts, iV Tr.no.v, .c Tr.no.ks, iV Tr.no.r] none), (6, .box 92 [iV yes, iV no] none), (8, .box 31 [iV 0, .c (.lit (.slice none 0 0)), iV 0] none)]⟩)
  (R := fun q => q ≤ cuts.length /\ ∀ j, j < q -> (qQ4 .i64 (cuts.getD j 0) yes == 0) = false) (m := fun q => cuts.length - q) 0 [(4, 4), (5, 5), (6, 6), (8, 8)] rfl rfl ⟨rfl, rfl, rfl, rfl, rfl, rfl, rfl, rfl, trivial⟩ (by simp [inK]) ⟨Nat.zero_le _, fun j hj => absurd hj (by omega)⟩ ⟨rfl, rfl, rfl, rfl, trivial⟩ ?_
 rintro q ⟨hq0, hz⟩
 refine KW.goIf qQ0 T_ok 100 rfl (by simp) rfl trivial (fun h => ?_) fun h => ?_
 ·have hq : q < cuts.length := by simp at h; omega
  have hgi : cuts.getD (Int.toNat (q : Int)) 0 = cuts.getD q 0 := by rw [Int.toNat_natCast]
  refine KW.goIf qQ0 T_ok 100 rfl (by simp; omega) rfl trivial (fun h => ?_) fun h => ?_
  ·have hb : (qQ4 .i64 (cuts.getD q 0) yes == 0) = true := by rw [<-hgi]; exact h
   rw [show inYes cuts yes = some q from firstB_some hq hb hz]
   refine KW.goOutR qQ0 T_ok 100 rfl (by simp) ?_
   refine KW.go qQ0 T_ok 100 rfl (by simp) ?_
   refine KW.convB 8 1 (Tr.lf q).ks rfl rfl ⟨rfl, rfl⟩ ?_
   exact KW.finC [] rfl rfl rfl trivial
  have hb : (qQ4 .i64 (cuts.getD q 0) yes == 0) = false := by rw [<-hgi]; exact h
  refine KW.goToR qQ0 T_ok 100 rfl (q + 1) [(4, 4), (5, 5), (6, 6), (8, 8)] rfl rfl ⟨rfl, rfl, rfl, rfl, rfl, rfl, rfl, rfl, trivial⟩ (by simp [inK]; omega) ⟨⟨by omega, fun j hj => ?_⟩, by omega⟩ ⟨rfl, rfl, rfl, rfl, trivial⟩
  by_cases hjq : j = q
  ·rw [hjq]; exact hb
  ·exact hz j (by omega)
 have hy : inYes cuts yes = none := qC5.2 fun j hj => hz j (by simp at h; omega)
 rw [hy]
 clear h hz hq0
 dsimp only
 refine KW.goOut qQ0 T_ok 100 rfl (by simp) ?_
 refine KW.go qQ0 T_ok 100 rfl (by simp) ?_
 have hrf : refB x cuts total ⟨yes, no, -1⟩ = enB x cuts total yes no := by
  show (if (0 : Int) ≤ -1 then _ else decide ((-1 : Int) = -1) && enB x cuts total yes no) = _
  rw [if_neg (by decide)]; rfl
 have DR := refuted57_does x ⟨set, total, cuts, .no⟩ ⟨yes, no, -1⟩ hx (by simp [inK]) hst (fun t ht => hn ▸ hcn t ht) hcl
 simp only [hrf] at DR
 refine KW.callV0 DR (qQ9 Tryz.func55 rfl rfl) [] (.inl rfl) rfl rfl rfl rfl rfl trivial
  ⟨⟨_, _, rfl, trivial, (show Mt _ _ _ (EV.ren [] (.ag (qV3 x))) (.ag (qV3 x)) from .same)⟩, ⟨_, _, rfl, trivial, (show Mt _ _ _ (EV.ren [] (.ag (repC ⟨set, total, cuts, .no⟩))) (.ag (repC ⟨set, total, cuts, .no⟩)) from .same)⟩, ⟨_, _, rfl, trivial, (show Mt _ _ _ (EV.ren [] (.ag (leafL ⟨yes, no, -1⟩))) (.ag (leafL ⟨yes, no, -1⟩)) from .same)⟩, trivial⟩ rfl (.inl rfl) ?_
 cases he : enB x cuts total yes no with
 | true =>
   rw [if_pos (rfl : true = true)]
   refine KW.goIf qQ0 T_ok 100 rfl (by simp) rfl trivial (fun h => ?_) fun h => absurd h (by simp)
   refine KW.go qQ0 T_ok 100 rfl (by simp) ?_
   refine KW.convB 8 1 (Tr.lf (-1)).ks rfl rfl ⟨rfl, rfl⟩ ?_
   exact KW.finC [] rfl rfl rfl trivial
 | false =>
 simp only [Bool.false_eq_true, if_false]
 refine KW.goIf qQ0 T_ok 100 rfl (by simp) rfl trivial (fun h => absurd h (by simp)) fun h => ?_
 clear h
 refine KW.goLpR qQ0 T_ok 100 rfl (I := fun q : Nat => ⟨Tryz.f57.ntmps, [(3, sI (l - 1)), (4, .e (.r 4)), (5, .e (.r 5)), (6, .e (.r 6)), (8, .e (.r 8)), (49, .e (lV cuts)), (50, sI cuts.length), (51, sI q)], [(4, .box 27 [iV x.state, lV x.cost] none), (5, .box 33 [iV set, iV total, lV cuts, iV Tr.no.v, .c Tr.no.ks, iV Tr.no.r] none), (6, .box 92 [iV yes, iV no] none), (8, .box 31 [iV 0, .c (.lit (.slice none 0 0)), iV 0] none)]⟩)
  (R := fun q => q ≤ cuts.length /\ ∀ j, j < q -> (qK9 .i64 (cuts.getD j 0) no == 0) = false) (m := fun q => cuts.length - q) 0 [(4, 4), (5, 5), (6, 6), (8, 8)] rfl rfl ⟨rfl, rfl, rfl, rfl, rfl, rfl, rfl, rfl, trivial⟩ (by simp [inK]) ⟨Nat.zero_le _, fun j hj => absurd hj (by omega)⟩ ⟨rfl, rfl, rfl, rfl, trivial⟩ ?_
 rintro q ⟨hq0, hz⟩
 refine KW.goIf qQ0 T_ok 100 rfl (by simp) rfl trivial (fun h => ?_) fun h => ?_
 ·have hq : q < cuts.length := by simp at h; omega
  have hgi : cuts.getD (Int.toNat (q : Int)) 0 = cuts.getD q 0 := by rw [Int.toNat_natCast]
  refine KW.goIf qQ0 T_ok 100 rfl (by simp; omega) rfl trivial (fun h => ?_) fun h => ?_
  ·have hb : (qK9 .i64 (cuts.getD q 0) no == 0) = false := by rw [<-hgi]; rw [bne, Bool.not_eq_true'] at h; exact h
   refine KW.goToR qQ0 T_ok 100 rfl (q + 1) [(4, 4), (5, 5), (6, 6), (8, 8)] rfl rfl ⟨rfl, rfl, rfl, rfl, rfl, rfl, rfl, rfl, trivial⟩ (by simp [inK]; omega) ⟨⟨by omega, fun j hj => ?_⟩, by omega⟩ ⟨rfl, rfl, rfl, rfl, trivial⟩
   by_cases hjq : j = q
   ·rw [hjq]; exact hb
   ·exact hz j (by omega)
  have hb : (qK9 .i64 (cuts.getD q 0) no == 0) = true := by rw [<-hgi]; rw [bne, Bool.not_eq_false'] at h; exact h
  have ho : offNo cuts no = some q := firstB_some hq hb hz
  rw [ho]
  dsimp only
  obtain ⟨v1, v2, v3⟩ := next_spec hn24 hcn hy ho
  have fa := free_no (yes := yes) (no := no) (by omega) v2 v3
  have fb := free_yes (yes := yes) (no := no) (by omega) v2 v3
  have hlow : headE (qW1 (qQ4 .i64 (cuts.getD (Int.toNat (q : Int)) 0) yes)) = (qV2 cuts yes q : Int) := by
   rw [hgi]
   exact headE_low (qD7 (hcv _ (getD_mem hq))) (inYes_none hy _ (getD_mem hq))
  have hsh := shl_rng24 (v := (qV2 cuts yes q : Int)) (by omega) (by omega)
  have hone : Go.Pu.one (qV2 cuts yes q) = qW0 1 (qV2 cuts yes q : Int) := rfl
  rw [hone] at fa fb ⊢
  have hA := growS_rng cuts (enB x cuts total) f yes (ior .i64 no (qW0 1 (qV2 cuts yes q : Int))) (l - 1)
  have hcx : EvEq (.ag [.lit (.int .i64 x.state), qZ5 x.cost]) (.ag (qV3 x)) := ag_refl _
  have hcr : EvEq (.ag [.lit (.int .i64 set), .lit (.int .i64 total), qZ5 cuts, .lit (.int .i64 Tr.no.v), Tr.no.ks, .lit (.int .i64 Tr.no.r)]) (.ag (repC ⟨set, total, cuts, .no⟩)) := ag_refl _
  refine KW.goDV qQ0 T_ok rfl 100 rfl 17 16 15 rfl (by decide +kernel) (by decide +kernel) rfl rfl rfl ?_ ?_ ?_
  ·simp
  ·simp only [hlow, hcx, hcr, true_and, and_true, inK, qC0]
   omega
  simp only [hlow]
  generalize growS cuts (enB x cuts total) f yes (ior .i64 no (qW0 1 (qV2 cuts yes q : Int))) (l - 1) = A at *
  have hA2 : -100 ≤ A.2 := by
   obtain ⟨a1, a2, a3⟩ := hA
   by_cases hl2 : 0 < l - 1
   ·have := a2 hl2; omega
   ·have := a3 (by omega); omega
  have hA3 := hA.1
  refine KW.goDV qQ0 T_ok rfl 100 rfl 17 16 17 rfl (by decide +kernel) (by decide +kernel) rfl rfl rfl ?_ ?_ ?_
  ·simp
  ·simp only [hlow, hcx, hcr, true_and, and_true, inK, qC0]
   omega
  generalize growS cuts (enB x cuts total) f (ior .i64 yes (qW0 1 (qV2 cuts yes q : Int))) no A.2 = B at *
  refine KW.go qQ0 T_ok 100 rfl (by simp) ?_
  refine KW.frz 98 [98] rfl rfl rfl ?_
  refine KW.goOutR qQ0 T_ok 100 rfl (by simp) ?_
  refine KW.go qQ0 T_ok 100 rfl (by simp) ?_
  refine KW.convB 8 1 (Tr.two (qV2 cuts yes q : Int) A.1 B.1).ks rfl rfl ?_ ?_
  ·exact two_rows _ _ _
  exact KW.finC [] rfl rfl rfl trivial
 have ho : offNo cuts no = none := qC5.2 fun j hj => hz j (by simp at h; omega)
 rw [ho]
 refine KW.goOut qQ0 T_ok 100 rfl (by simp) ?_
 refine KW.go qQ0 T_ok 100 rfl (by simp) ?_
 refine KW.convB 8 1 Tr.no.ks rfl rfl ⟨rfl, rfl⟩ ?_
 exact KW.finC [] rfl rfl rfl trivial
theorem rgrow57_all (x : CasP) (set total : Int) (cuts : List Int) (hx : CostB x) (hst : inN x.cost.length x.state) {n : Nat} (hn : n = x.cost.length) (hcn : ∀ t ∈ cuts, inN n t) (hcl : cuts.length ≤ 1024) : ∀ f, f ≤ 26 -> gSok x set total cuts f
 | 0, _ => fun _ _ _ h => absurd h (Nat.not_lt_zero _)
 | f + 1, hf => rgrow57_does x set total cuts hx hst hn hcn hcl f (by omega) (rgrow57_all x set total cuts hx hst hn hcn hcl f (by omega))
end Go.Proofs.YtgoilpfpmbjegaaGreatDoor
end
section
attribute [local instance] Go.Sy.drwNo
namespace Go.Proofs.YtgoilpfpmbjegaaGreatDoor
open Go.Sy Go.Pu Go.Proofs.YtgoilpfpmbjegaaGreatDoor.Tr
theorem che_E {f : FormP} {x : CasP} : (cheV f x).2.2 = if casE f x = 0 then posE f else casE f x := by
 unfold cheV
 split
 ·split
  ·rename_i h; exact h.symm
  ·rfl
 ·rfl
theorem che_zero {f : FormP} {x : CasP} (h : (cheV f x).2.2 = 0) : casE f x = 0 /\ posE f = 0 /\ (cheV f x).1 = (rsV f x).best /\ (cheV f x).2.1 = (rsV f x).total := by
 rw [che_E] at h
 split at h
 ·rename_i h1
  refine ⟨h1, h, ?_, ?_⟩ <;> rw [cheV, if_pos h1, if_pos h]
 ·rename_i h1; exact absurd h h1
theorem rmk_err {f : FormP} {x : CasP} (h : (cheV f x).2.2 ≠ 0) : rmkE f x = (cheV f x).2.2 /\ rmkR f x = ⟨0, 0, [], .no⟩ := by
 have e : rmkE f x = (cheV f x).2.2 := by
  rw [che_E] at h ⊢
  unfold rmkE
  split
  ·rename_i h1
   rw [if_pos h1] at h
   rw [if_neg h]
  ·rfl
 refine ⟨e, ?_⟩
 rw [rmkR, e, if_neg h]
set_option maxHeartbeats 3200000 in
theorem rpmake_does (f : FormP) (x : CasP) (hin : FormIn f) (T : Nat) : DoesF Tryz.prog 18 [.ag (qX5 f), .ag (qV3 x)] (gloTZ T) (.tup [.ag (repC (rmkR f x)), eV (rmkE f x)]) [] := by
 refine DoesF.bodyC qQ0 _ Tryz.func18 rfl rfl rfl rfl ?_
 refine KW.goIf qQ0 qZ0 100 rfl (by simp only [qQ1, qQ5, qQ2, qQ8, true_and, and_true, qQ7]; exact hin) rfl trivial (fun h => ?_) fun h => ?_
 ·have h1 : (cheV f x).2.2 ≠ 0 := by simpa [qQ1] using h
  obtain ⟨e1, e2⟩ := rmk_err h1
  refine KW.go qQ0 qZ0 100 rfl (by simp) ?_
  refine KW.convB 4 2 (qZ5 []) rfl rfl ⟨rfl, rfl⟩ ?_
  refine KW.convB 4 4 Tr.no.ks rfl rfl ⟨rfl, rfl⟩ ?_
  refine KW.finC [] rfl rfl ?_ trivial
  rw [e1, e2]
  simp only [qQ1, qQ2]; rfl
 have h1 : (cheV f x).2.2 = 0 := by simpa [qQ1] using h
 obtain ⟨z1, z2, z3, z4⟩ := che_zero h1
 obtain ⟨n, ok⟩ := casE_ok z1
 have hmk : rmkE f x = if cutE f = 0 then (rmkG f x).2.2 else cutE f := by rw [rmkE, if_pos z1, if_pos z2]
 simp only [qQ1, qQ2, qX2, qX0, z3, z4, h1]
 refine KW.goIf qQ0 qZ0 100 rfl (by simp only [qQ1, qQ5, qQ2, qQ8, true_and, and_true, qQ7]; exact hin) rfl trivial (fun h => ?_) fun h => ?_
 ·have h2 : cutE f ≠ 0 := by simpa [qQ1] using h
  rw [if_neg h2] at hmk
  have hr : rmkR f x = ⟨0, 0, [], .no⟩ := by rw [rmkR, hmk, if_neg h2]
  refine KW.go qQ0 qZ0 100 rfl (by simp) ?_
  refine KW.convB 4 2 (qZ5 []) rfl rfl ⟨rfl, rfl⟩ ?_
  refine KW.convB 4 4 Tr.no.ks rfl rfl ⟨rfl, rfl⟩ ?_
  refine KW.finC [] rfl rfl ?_ trivial
  rw [hmk, hr]
  simp only [qQ1, qQ2]; rfl
 have h2 : cutE f = 0 := by simpa [qQ1] using h
 rw [if_pos h2] at hmk
 obtain ⟨c1, c2, c3, c4⟩ := cut_facts ok h2
 have hcR : cutR f x = cutL f x := by rw [cutR, if_pos h2]
 simp only [qQ1, qQ2, qX2, qX0, hcR, h2]
 refine KW.go qQ0 qZ0 100 rfl (by simp) ?_
 refine KW.name 10 rfl fun b => ?_
 have D := rpgrow_all x (rsV f x).best (rsV f x).total (cutL f x) T ok.costB ok.n24 (fun t ht => (c1 t ht).1) c2 25 0 0 0 b (Nat.lt_succ_of_le (free_le 0 0)) (by decide) (by decide)
 rw [show qA5 (cutL f x) (enB x (cutL f x) (rsV f x).total) 25 0 0 0 = rmkG f x from rfl] at D
 have hr : rmkR f x = if (rmkG f x).2.2 = 0 then ⟨(rsV f x).best, (rsV f x).total, cutL f x, (rmkG f x).1⟩ else ⟨0, 0, [], .no⟩ := by rw [rmkR, hmk]
 rw [hmk, hr]
 generalize rmkG f x = G at *
 generalize cutL f x = L at *
 generalize rsV f x = B at *
 refine KW.call0 D (qQ9 Tryz.func56 rfl rfl) [(0, 10), (1, 0)] [(0, 10)] [] (.inl rfl) rfl rfl rfl rfl rfl trivial
  ⟨⟨_, _, rfl, trivial, (show Mt _ _ _ (EV.ren [(0, 10), (1, 0)] (.r 0)) (.r 0) from .same)⟩, ⟨_, _, rfl, trivial, (show Mt _ _ _ (EV.ren [(0, 10), (1, 0)] (cuV 0 0)) (cuV 0 0) from .same)⟩, trivial⟩ rfl ⟨rfl, rfl, trivial⟩ rfl ⟨.inr ⟨rfl, .inr ⟨_, _, _, _, b, rfl, rfl⟩⟩, trivial⟩ rfl rfl (.inl rfl) ?_
 refine KW.goIf qQ0 qZ0 100 rfl (by simp) rfl trivial (fun h => ?_) fun h => ?_
 ·have h3 : G.2.2 ≠ 0 := by simpa using h
  refine KW.go qQ0 qZ0 100 rfl (by simp) ?_
  refine KW.convB 4 2 (qZ5 []) rfl rfl ⟨rfl, rfl⟩ ?_
  refine KW.convB 4 4 Tr.no.ks rfl rfl ⟨rfl, rfl⟩ ?_
  refine KW.finC [] rfl rfl ?_ trivial
  rw [if_neg h3]; rfl
 have h3 : G.2.2 = 0 := by simpa using h
 rw [if_pos h3, h3]
 exact KW.goRetC qQ0 qZ0 100 rfl rfl rfl (by simp) trivial
set_option maxHeartbeats 3200000 in
theorem rmake57_does (f : FormP) (x : CasP) (hin : FormIn f) : DoesF Tryz.prog 19 [.ag (qX5 f), .ag (qV3 x)] [] (.tup [.ag (repC (rmkR f x)), iV (rmkE f x)]) [] := by
 refine DoesF.bodyC qQ0 _ Tryz.func19 rfl rfl rfl rfl ?_
 refine KW.goIf qQ0 qZ0 100 rfl (by simp only [qQ1, qQ5, qQ2, qQ8, true_and, and_true]; exact hin) rfl trivial (fun h => ?_) fun h => ?_
 ·have h1 : (cheV f x).2.2 ≠ 0 := by simpa [qQ1] using h
  obtain ⟨e1, e2⟩ := rmk_err h1
  refine KW.go qQ0 qZ0 100 rfl (by simp) ?_
  refine KW.convB 4 2 (qZ5 []) rfl rfl ⟨rfl, rfl⟩ ?_
  refine KW.convB 4 4 Tr.no.ks rfl rfl ⟨rfl, rfl⟩ ?_
  refine KW.finC [] rfl rfl ?_ trivial
  rw [e1, e2]
  simp only [qQ1, qQ2]; rfl
 have h1 : (cheV f x).2.2 = 0 := by simpa [qQ1] using h
 obtain ⟨z1, z2, z3, z4⟩ := che_zero h1
 obtain ⟨n, ok⟩ := casE_ok z1
 have hmk : rmkE f x = if cutE f = 0 then (rmkG f x).2.2 else cutE f := by rw [rmkE, if_pos z1, if_pos z2]
 simp only [qQ1, qQ2, qX2, qX0, z3, z4, h1]
 refine KW.goIf qQ0 qZ0 100 rfl (by simp only [qQ1, qQ5, qQ2, qQ8, true_and, and_true]; exact hin) rfl trivial (fun h => ?_) fun h => ?_
 ·have h2 : cutE f ≠ 0 := by simpa [qQ1] using h
  rw [if_neg h2] at hmk
  have hr : rmkR f x = ⟨0, 0, [], .no⟩ := by rw [rmkR, hmk, if_neg h2]
  refine KW.go qQ0 qZ0 100 rfl (by simp) ?_
  refine KW.convB 4 2 (qZ5 []) rfl rfl ⟨rfl, rfl⟩ ?_
  refine KW.convB 4 4 Tr.no.ks rfl rfl ⟨rfl, rfl⟩ ?_
  refine KW.finC [] rfl rfl ?_ trivial
  rw [hmk, hr]
  simp only [qQ1, qQ2]; rfl
 have h2 : cutE f = 0 := by simpa [qQ1] using h
 rw [if_pos h2] at hmk
 obtain ⟨c1, c2, c3, c4⟩ := cut_facts ok h2
 have hcR : cutR f x = cutL f x := by rw [cutR, if_pos h2]
 have href := rmk_ref ok z2 h2
 simp only [qQ1, qQ2, qX2, qX0, hcR, h2]
 refine KW.go qQ0 qZ0 100 rfl (by simp) ?_
 have D := rgrow57_all x (rsV f x).best (rsV f x).total (cutL f x) ok.costB (ok.len.symm ▸ ok.st) ok.len.symm (fun t ht => (c1 t ht).1) c2 25 (by decide) 0 0 4096 (Nat.lt_succ_of_le (free_le 0 0)) (by decide) (by decide)
 have hr : rmkR f x = if (rmkG f x).2.2 = 0 then ⟨(rsV f x).best, (rsV f x).total, cutL f x, (rmkG f x).1⟩ else ⟨0, 0, [], .no⟩ := by rw [rmkR, hmk]
 rw [hmk, hr]
 generalize growS (cutL f x) (enB x (cutL f x) (rsV f x).total) 25 0 0 4096 = R at *
 generalize rmkG f x = G at *
 generalize cutL f x = L at *
 generalize rsV f x = B at *
 have hag : ∀ (q : Nat) (u v : CV), [CV.lit (.int .i64 B.best), .lit (.int .i64 B.total), qZ5 L, .lit (.int .i64 0), .lit (.slice none 0 0), .lit (.int .i64 0)][q]? = some u -> (repC ⟨B.best, B.total, L, .no⟩)[q]? = some v -> CVEq u v := fun q u v hu hv => by
  match q, hu, hv with
  | 0, hu, hv => cases hu; cases hv; exact CVEq.refl _
  | 1, hu, hv => cases hu; cases hv; exact CVEq.refl _
  | 2, hu, hv => cases hu; cases hv; exact CVEq.refl _
  | 3, hu, hv => cases hu; cases hv; exact CVEq.refl _
  | 4, hu, hv => cases hu; cases hv; exact ⟨rfl, rfl⟩
  | 5, hu, hv => cases hu; cases hv; exact CVEq.refl _
  | q + 6, hu, hv => simp at hu
 refine KW.callV0 D (qQ9 Tryz.func57 rfl rfl) [] (.inl rfl) rfl rfl rfl rfl rfl trivial
  ⟨⟨_, _, rfl, trivial, (show Mt _ _ _ (EV.ren [] (.ag (qV3 x))) (.ag (qV3 x)) from .same)⟩, ⟨_, _, rfl, trivial, .agc rfl hag⟩, ⟨_, _, rfl, trivial, (show Mt _ _ _ (EV.ren [] (cuV 0 0)) (cuV 0 0) from .same)⟩, ⟨_, _, rfl, trivial, .conv (CVEq.refl _)⟩, trivial⟩ rfl (.inl rfl) ?_
 refine KW.goIf qQ0 qZ0 100 rfl (by simp) rfl trivial (fun h => ?_) fun h => ?_
 ·have h3 : R.2 < 0 := by simpa using h
  have h4 : G.2.2 = 4 := by
   rcases href with ⟨_, r3, r4⟩ | ⟨r1, _⟩
   ·rw [r3] at h3; simp only at h3; omega
   ·exact r1
  refine KW.go qQ0 qZ0 100 rfl (by simp) ?_
  refine KW.convB 4 2 (qZ5 []) rfl rfl ⟨rfl, rfl⟩ ?_
  refine KW.convB 4 4 Tr.no.ks rfl rfl ⟨rfl, rfl⟩ ?_
  refine KW.finC [] rfl rfl ?_ trivial
  rw [h4, if_neg (by decide)]; rfl
 have h3 : ¬ R.2 < 0 := by simpa using h
 obtain ⟨h4, h5⟩ : G.2.2 = 0 /\ R.1 = G.1 := by
  rcases href with ⟨r1, r3, r4⟩ | ⟨_, r4⟩
  ·exact ⟨r1, by rw [r3]⟩
  ·exact absurd r4 h3
 rw [if_pos h4, h4, <-h5]
 exact KW.goRetC qQ0 qZ0 100 rfl rfl rfl (by simp) trivial
end Go.Proofs.YtgoilpfpmbjegaaGreatDoor
end
section
attribute [local instance] Go.Sy.drwNo
namespace Go.Proofs.YtgoilpfpmbjegaaGreatDoor
open Go.Sy Go.Pu Go.Proofs.YtgoilpfpmbjegaaGreatDoor.Tr
def fmC (f : FormP) : Nat -> CV := fun q => if q = 0 then .lit (.int .i64 f.vars) else if q = 1 then qJ9 f.nodes else .lit (.int .i64 f.top)
theorem verify1_does (x : Int) (f : FormP) (h : 0 ≤ f.vars /\ f.vars ≤ 24) : DoesF Tryz.prog 45 [iV x, .pe 1 3 (fun _ q => fmC f q) 0 0] [] (sB (decide (x < 0) || decide (qW0 1 f.vars ≤ x))) [] := by
 refine DoesF.body _ Tryz.func45 rfl rfl rfl rfl ?_
 have hsh := shl_v h.1 h.2
 refine KW.goRet qQ0 qZ0 100 rfl rfl rfl ?_ trivial
 simp +contextual [inK, qC0]
 omega
theorem setE_any {vars : Int} {l : List Int} (h : ¬ 1024 < l.length) : setE vars l = if (l.any fun x => decide (x < 0) || decide (qW0 1 vars ≤ x)) = true then 3 else 0 := by
 rw [setE, if_neg h]
 have : (l.all fun s => decide (0 ≤ s) && decide (s < qW0 1 vars)) = !(l.any fun x => decide (x < 0) || decide (qW0 1 vars ≤ x)) := by
  rw [List.not_any_eq_all_not]
  congr 1
  funext x
  rw [Bool.not_or, <-decide_not, <-decide_not]
  congr 1 <;> exact decide_eq_decide.2 (by omega)
 rw [this]
 cases (l.any fun x => decide (x < 0) || decide (qW0 1 vars ≤ x)) <;> rfl
theorem isV_in {f : FormP} {x : CasP} {n : Nat} (ok : CasOk f x n) {s : Int} (hs : inN n s) : qK6 f s = 0 /\ isV f s false = qJ5 f s := by
 have e := pathSE_in ok.pe ok.vars ok.n24 hs
 refine ⟨e, ?_⟩
 rw [isV, e, decide_eq_true rfl, Bool.true_and, isP_cut]
set_option maxHeartbeats 6400000 in
theorem verify57_does (f : FormP) (x : CasP) (r : RepP) (hin : FormIn f) (hct : r.tree.In) (hcl : r.cuts.length ≤ 1099511627776) : DoesF Tryz.prog 16 [.ag (qX5 f), .ag (qV3 x), .ag (repC r)] [] (.tup [bV (decide (rvE f x r = 0) && rvB f x r), eV (rvE f x r)]) [] := by
 refine DoesF.body _ Tryz.func16 rfl rfl rfl rfl ?_
 obtain ⟨set, total, cuts, t⟩ := r
 simp only at hct hcl
 refine KW.goIf qQ0 qZ0 100 rfl (by simp only [qQ1, qQ5, qQ2, qQ8, true_and, and_true, qQ7]; exact hin) rfl trivial (fun h => ?_) fun h => ?_
 ·have h1 : casE f x ≠ 0 := by simpa [qQ1] using h
  have e : rvE f x ⟨set, total, cuts, t⟩ = casE f x := by rw [rvE, if_neg h1]
  refine KW.goRet qQ0 qZ0 100 rfl rfl ?_ (by simp) trivial
  rw [e, decide_eq_false h1]; simp only [qQ1, qQ2]; rfl
 have h1 : casE f x = 0 := by simpa [qQ1] using h
 obtain ⟨n, ok⟩ := casE_ok h1
 have h0 := (pathE_ok ok.pe).1
 have hvn := ok.vars
 have hn24 := ok.n24
 have hvr : 0 ≤ f.vars /\ f.vars ≤ 24 := by omega
 have hrv : rvE f x ⟨set, total, cuts, t⟩ = if setE f.vars cuts = 0 then splE t f.vars else setE f.vars cuts := by rw [rvE, if_pos h1]
 clear h
 refine KW.goIf qQ0 qZ0 100 rfl (by simp [inK]) rfl trivial (fun h => ?_) fun h => ?_
 ·have h2 : 1024 < cuts.length := by simp at h; omega
  have e : setE f.vars cuts = 4 := by rw [setE, if_pos h2]
  rw [e, if_neg (by decide)] at hrv
  refine KW.goRet qQ0 qZ0 100 rfl rfl ?_ (by simp) trivial
  rw [hrv]; rfl
 have h2 : ¬ 1024 < cuts.length := by simp at h; omega
 refine KW.go qQ0 qZ0 100 rfl (by simp) ?_
 refine KW.callV0 (containsFunc_does (m := 1) (ks := fun _ => 3) (caps := fun _ => fmC f) (p := fun x => decide (x < 0) || decide (qW0 1 f.vars ≤ x)) cuts ⟨qQ9 Tryz.func45 rfl rfl, fun x _ => verify1_does x f hvr⟩) (qQ9 Tryz.func44 rfl rfl) [3] (.inl rfl) rfl rfl rfl rfl rfl trivial
  ⟨⟨_, _, rfl, trivial, .conv (CVEq.refl _)⟩, ⟨_, _, rfl, trivial, .lfn rfl ?_⟩, trivial⟩ rfl (.inr trivial) ?_
 ·intro j hj
  obtain rfl : j = 0 := by omega
  refine ⟨3, _, _, _, rfl, rfl, rfl, rfl, fun q hq => ?_⟩
  match q, hq with
  | 0, _ => rfl
  | 1, _ => rfl
  | 2, _ => rfl
 have hany := setE_any (vars := f.vars) h2
 refine KW.goIf qQ0 qZ0 100 rfl (by simp) rfl trivial (fun h => ?_) fun h => ?_
 ·rw [if_pos h] at hany
  rw [hany, if_neg (by decide)] at hrv
  refine KW.goRet qQ0 qZ0 100 rfl rfl ?_ (by simp) trivial
  rw [hrv]; rfl
 rw [if_neg (by rw [show (cuts.any fun x => decide (x < 0) || decide (qW0 1 f.vars ≤ x)) = false from h]; decide)] at hany
 rw [hany, if_pos rfl] at hrv
 have hcn := (setE_zero hn24 (hvn ▸ hany)).2
 clear h
 refine KW.goIf qQ0 qZ0 100 rfl (by simp [qZ7]) rfl trivial (fun h => ?_) fun h => ?_
 ·have h3 : splE t f.vars ≠ 0 := by simpa [qZ7] using h
  refine KW.goRet qQ0 qZ0 100 rfl rfl ?_ (by simp) trivial
  rw [hrv, decide_eq_false h3]; simp only [qZ7]; rfl
 have h3 : splE t f.vars = 0 := by simpa [qZ7] using h
 have hL : splL t f.vars = lvs t 0 0 := by rw [splL, if_pos h3]
 obtain ⟨hg, hc4⟩ := splE_g h3
 have hli := lvs_in t hg hct 0 0
 have hll := lvs_len t 0 0
 have hsz := szT_rng t
 have hcb := ok.costB
 rw [hrv, h3]
 have e0 : decide ((0 : Int) = 0) = true := rfl
 rw [e0, Bool.true_and]
 simp only [qZ7, hL, h3]
 have hrb : rvB f x ⟨set, total, cuts, t⟩ = (decide (qQ4 .i64 set x.state = 0) && decide (qV4 x set = total) && !qJ5 f (qQ4 .i64 x.state set) && cuts.all (cutB f x) && (lvs t 0 0).all (refB x cuts total)) := rfl
 rw [hrb]
 clear h hrb
 refine KW.goD qQ0 qZ0 rfl 100 rfl (by decide +kernel) rfl (by simp) ?_ ?_
 ·simp only [qQ2, qQ8, qX0]
  simp +contextual [hcb]
 simp only [qQ2, qX0]
 have htest : (qQ4 .i64 set x.state != 0 || qV4 x set != total) = !(decide (qQ4 .i64 set x.state = 0) && decide (qV4 x set = total)) := by
  rw [Bool.not_and]
  congr 1
 refine KW.goIf qQ0 qZ0 100 rfl (by simp) rfl trivial (fun h => ?_) fun h => ?_
 ·have hb : (decide (qQ4 .i64 set x.state = 0) && decide (qV4 x set = total)) = false := by
   have := htest.symm.trans h
   rwa [Bool.not_eq_true'] at this
  refine KW.goRet qQ0 qZ0 100 rfl rfl ?_ (by simp) trivial
  rw [hb]; rfl
 have hb : (decide (qQ4 .i64 set x.state = 0) && decide (qV4 x set = total)) = true := by
  have := htest.symm.trans h
  rwa [Bool.not_eq_false'] at this
 rw [hb, Bool.true_and]
 clear h htest
 obtain ⟨a1, a2⟩ := state_in ok (qW7 (y := set) hn24 ok.st)
 cases hv : qJ5 f (qQ4 .i64 x.state set) with
 | true =>
   refine KW.goIf qQ0 qZ0 100 rfl ?_ rfl trivial (fun h => ?_) fun h => absurd h ?_
   ·simp only [qQ1, qQ5, qX2, true_and, and_true, qQ7, a1, a2]
    simp [hin]
   ·refine KW.goRet qQ0 qZ0 100 rfl rfl ?_ (by simp) trivial
    simp only [qQ1, qX2, a1]; rfl
   ·simp only [qQ1, qX2, a1, a2, hv]
    simp
 | false =>
 refine KW.goIf qQ0 qZ0 100 rfl ?_ rfl trivial (fun h => absurd h ?_) fun h => ?_
 ·simp only [qQ1, qQ5, qX2, true_and, and_true, qQ7, a1, a2]
  simp [hin]
 ·simp only [qQ1, qX2, a1, a2, hv]
  simp
 simp only [qQ1, qX2, a1, a2, hv, Bool.not_false, Bool.true_and]
 clear h
 refine KW.goLpR qQ0 qZ0 100 rfl (I := fun q : Nat => ⟨Tryz.f16.ntmps, [(3, .e (.r 3)), (4, .e (.r 4)), (5, .e (.r 5)), (9, .e (lvV (lvs t 0 0))), (77, .e (lV cuts)), (78, sI cuts.length), (79, sI q)], [(3, .box 24 [iV f.vars, .c (qJ9 f.nodes), iV f.top] none), (4, .box 27 [iV x.state, lV x.cost] none), (5, .box 33 [iV set, iV total, lV cuts, iV t.v, .c t.ks, iV t.r] none)]⟩)
  (R := fun q => q ≤ cuts.length /\ (cuts.take q).all (cutB f x) = true) (m := fun q => cuts.length - q) 0 [(3, 3), (4, 4), (5, 5)] rfl rfl ⟨rfl, rfl, rfl, rfl, rfl, rfl, rfl, trivial⟩ (by simp) ⟨Nat.zero_le _, rfl⟩ ⟨rfl, rfl, rfl, trivial⟩ ?_
 rintro q ⟨hq0, hall⟩
 refine KW.goIf qQ0 qZ0 100 rfl (by simp) rfl trivial (fun h => ?_) fun h => ?_
 ·have hq : q < cuts.length := by simp at h; omega
  have hg : cuts.getD (Int.toNat (q : Int)) 0 = cuts[q] := by simp [List.getD_eq_getElem?_getD, hq]
  have htk : cuts.take (q + 1) = cuts.take q ++ [cuts[q]] := List.take_succ_eq_append_getElem hq
  obtain ⟨i1, i2⟩ := isV_in ok (hcn _ (List.getElem_mem hq))
  have hmem := List.getElem_mem hq
  generalize cuts[q] = s at *
  have hcb2 : cutB f x s = (decide (qQ4 .i64 s x.state = 0) && qJ5 f s) := rfl
  cases hcs : cutB f x s with
  | false =>
    have hf : (cuts.all (cutB f x)) = false := by
     rw [List.all_eq_false]
     exact ⟨s, hmem, by rw [hcs]; decide⟩
    rw [hcb2] at hcs
    refine KW.goIf qQ0 qZ0 100 rfl ?_ rfl trivial (fun h => ?_) fun h => absurd h ?_
    ·simp only [qQ1, qQ5, qX2, true_and, and_true, qQ7, hg, i1, i2]
     simp [hin, hq]
    ·refine KW.goOutR qQ0 qZ0 100 rfl (by simp) ?_
     refine KW.goRet qQ0 qZ0 100 rfl rfl ?_ (by simp) trivial
     rw [hf]
     simp only [qQ1, qX2, hg, i1]; rfl
    ·simp only [qQ1, qX2, hg, i1, i2]
     cases hvs : qJ5 f s <;> simp [hvs] at hcs ⊢
     exact hcs
  | true =>
    have hcs2 := hcs
    rw [hcb2, Bool.and_eq_true, decide_eq_true_iff] at hcs
    refine KW.goIf qQ0 qZ0 100 rfl ?_ rfl trivial (fun h => absurd h ?_) fun h => ?_
    ·simp only [qQ1, qQ5, qX2, true_and, and_true, qQ7, hg, i1, i2]
     simp [hin, hq]
    ·simp only [qQ1, qX2, hg, i1, i2, hcs.1, hcs.2]
     simp
    ·refine KW.goToR qQ0 qZ0 100 rfl (q + 1) [(3, 3), (4, 4), (5, 5)] rfl rfl ⟨rfl, rfl, rfl, rfl, rfl, rfl, rfl, trivial⟩ (by simp [inK]; omega) ⟨⟨by omega, ?_⟩, by omega⟩ ⟨rfl, rfl, rfl, trivial⟩
     rw [htk, List.all_append, hall]
     simp only [List.all_cons, List.all_nil, Bool.and_true, hcs2, Bool.true_and]
 have hq : q = cuts.length := by simp at h; omega
 rw [hq, List.take_length] at hall
 rw [hall, Bool.true_and]
 clear h hq0 hq
 generalize lvs t 0 0 = L at *
 refine KW.goOut qQ0 qZ0 100 rfl (by simp) ?_
 refine KW.goLpR qQ0 qZ0 100 rfl (I := fun q : Nat => ⟨Tryz.f16.ntmps, [(4, .e (.r 4)), (5, .e (.r 5)), (104, .e (lvV L)), (105, sI L.length), (106, sI q)], [(4, .box 27 [iV x.state, lV x.cost] none), (5, .box 33 [iV set, iV total, lV cuts, iV t.v, .c t.ks, iV t.r] none)]⟩)
  (R := fun q => q ≤ L.length /\ (L.take q).all (refB x cuts total) = true) (m := fun q => L.length - q) 0 [(4, 4), (5, 5)] rfl rfl ⟨rfl, rfl, rfl, rfl, rfl, trivial⟩ (by simp) ⟨Nat.zero_le _, rfl⟩ ⟨rfl, rfl, trivial⟩ ?_
 rintro q ⟨hq0, hall2⟩
 refine KW.goIf qQ0 qZ0 100 rfl (by simp) rfl trivial (fun h => ?_) fun h => ?_
 ·have hq : q < L.length := by simp at h; omega
  have hgi : L.getD (Int.toNat (q : Int)) leaf0 = L[q] := by simp [List.getD_eq_getElem?_getD, hq]
  have htk : L.take (q + 1) = L.take q ++ [L[q]] := List.take_succ_eq_append_getElem hq
  have hmem := List.getElem_mem hq
  have hX := hli _ hmem
  refine KW.go qQ0 qZ0 100 rfl (by simp; omega) ?_
  refine KW.callV0 (refuted_does x ⟨set, total, cuts, t⟩ (L.getD (Int.toNat (q : Int)) leaf0) hcb (by rw [hgi]; exact hX) (by simp only; omega)) (qQ9 Tryz.func50 rfl rfl) [] (.inl rfl) rfl rfl rfl rfl rfl trivial
   ⟨⟨_, _, rfl, trivial, (show Mt _ _ _ (EV.ren [] (.ag (qV3 x))) (.ag (qV3 x)) from .same)⟩, ⟨_, _, rfl, trivial, (show Mt _ _ _ (EV.ren [] (.ag (repC ⟨set, total, cuts, t⟩))) (.ag (repC ⟨set, total, cuts, t⟩)) from .same)⟩, ⟨_, _, rfl, trivial, (show Mt _ _ _ (EV.ren [] (.ag (leafL (L.getD (Int.toNat (q : Int)) leaf0)))) (.ag (leafL (L.getD (Int.toNat (q : Int)) leaf0))) from .same)⟩, trivial⟩ rfl (.inl rfl) ?_
  simp only [hgi]
  refine KW.goIf qQ0 qZ0 100 rfl (by simp) rfl trivial (fun h => ?_) fun h => ?_
  ·have hb : refB x cuts total L[q] = false := by
    have : (!refB x cuts total L[q]) = true := h
    rwa [Bool.not_eq_true'] at this
   have hf : (L.all (refB x cuts total)) = false := by
    rw [List.all_eq_false]
    exact ⟨_, hmem, by rw [hb]; decide⟩
   refine KW.goOutR qQ0 qZ0 100 rfl (by simp) ?_
   refine KW.goRet qQ0 qZ0 100 rfl rfl ?_ (by simp) trivial
   rw [hf]; rfl
  ·have hb : refB x cuts total L[q] = true := by
    have : (!refB x cuts total L[q]) = false := h
    rwa [Bool.not_eq_false'] at this
   refine KW.goToR qQ0 qZ0 100 rfl (q + 1) [(4, 4), (5, 5)] rfl rfl ⟨rfl, rfl, rfl, rfl, rfl, trivial⟩ (by simp [inK]; omega) ⟨⟨by omega, ?_⟩, by omega⟩ ⟨rfl, rfl, trivial⟩
   rw [htk, List.all_append, hall2]
   simp only [List.all_cons, List.all_nil, Bool.and_true, hb, Bool.true_and]
 have hq : q = L.length := by simp at h; omega
 rw [hq, List.take_length] at hall2
 rw [hall2]
 refine KW.goOut qQ0 qZ0 100 rfl (by simp) ?_
 exact KW.goRet qQ0 qZ0 100 rfl rfl rfl (by simp) trivial
end Go.Proofs.YtgoilpfpmbjegaaGreatDoor
end
section
attribute [local instance] Go.Sy.drwNo
namespace Go.Proofs.YtgoilpfpmbjegaaGreatDoor
open Go.Sy Go.Pu Go.Proofs.YtgoilpfpmbjegaaGreatDoor.Tr
theorem set_in {f : FormP} {x : CasP} {n : Nat} (ok : CasOk f x n) {s : Int} : setB f s = true ↔ inN n s := by
 rw [setB, Bool.and_eq_true, decide_eq_true_iff, decide_eq_true_iff, ok.vars, qC4, <-inN_iff ok.n24]
theorem set_heal {f : FormP} {x : CasP} {n : Nat} (ok : CasOk f x n) {s : Int} (hs : rng s) (total : Int) : ((!setB f s || !healB f x s) || qV4 x s != total) = !(decide (qQ4 .i64 s x.state = 0) && decide (qV4 x s = total) && !qJ5 f (qQ4 .i64 x.state s)) := by
 by_cases hz : qQ4 .i64 s x.state = 0
 ·have hv := sub_valid ok.st.1 hs hz
  have hin := heals_in ok hv ((nz_part hv).1 hz)
  have h1 := (set_in ok).2 hin
  rw [h1, healB, decide_eq_true hz]
  cases qJ5 f (qQ4 .i64 x.state s) <;> simp
  rfl
 ·rw [healB, decide_eq_false hz]
  simp
set_option maxHeartbeats 6400000 in
theorem rverify57_does (f : FormP) (x : CasP) (r : RepP) (hin : FormIn f) (hct : r.tree.In) (hset : rng r.set) : DoesF Tryz.prog 17 [.ag (qX5 f), .ag (qV3 x), .ag (repC r)] [] (.tup [bV (decide (rvE f x r = 0) && rvB f x r), iV (rvE f x r)]) [] := by
 refine DoesF.body _ Tryz.func17 rfl rfl rfl rfl ?_
 obtain ⟨set, total, cuts, t⟩ := r
 simp only at hct hset
 refine KW.goIf qQ0 qZ0 100 rfl (by simp only [qQ1, qQ5, qQ2, qQ8, true_and, and_true]; exact hin) rfl trivial (fun h => ?_) fun h => ?_
 ·have h1 : casE f x ≠ 0 := by simpa [qQ1] using h
  have e : rvE f x ⟨set, total, cuts, t⟩ = casE f x := by rw [rvE, if_neg h1]
  refine KW.goRet qQ0 qZ0 100 rfl rfl ?_ (by simp) trivial
  rw [e, decide_eq_false h1]; simp only [qQ1, qQ2]; rfl
 have h1 : casE f x = 0 := by simpa [qQ1] using h
 obtain ⟨n, ok⟩ := casE_ok h1
 have h0 := (pathE_ok ok.pe).1
 have hvn := ok.vars
 have hn24 := ok.n24
 have hvr : 0 ≤ f.vars /\ f.vars ≤ 24 := by omega
 have hrv : rvE f x ⟨set, total, cuts, t⟩ = if setE f.vars cuts = 0 then splE t f.vars else setE f.vars cuts := by rw [rvE, if_pos h1]
 clear h
 refine KW.goIf qQ0 qZ0 100 rfl (by simp [inK]) rfl trivial (fun h => ?_) fun h => ?_
 ·have h2 : 1024 < cuts.length := by simp at h; omega
  have e : setE f.vars cuts = 4 := by rw [setE, if_pos h2]
  rw [e, if_neg (by decide)] at hrv
  refine KW.goRet qQ0 qZ0 100 rfl rfl ?_ (by simp) trivial
  rw [hrv]; rfl
 have h2 : ¬ 1024 < cuts.length := by simp at h; omega
 clear h
 have hse : setE f.vars cuts = if cuts.all (setB f) = true then 0 else 3 := by rw [setE, if_neg h2]; rfl
 refine KW.goLpR qQ0 qZ0 100 rfl (I := fun q : Nat => ⟨Tryz.f17.ntmps, [(3, .e (.r 3)), (4, .e (.r 4)), (5, .e (.r 5)), (29, .e (lV cuts)), (30, sI cuts.length), (31, sI q)], [(3, .box 24 [iV f.vars, .c (qJ9 f.nodes), iV f.top] none), (4, .box 27 [iV x.state, lV x.cost] none), (5, .box 33 [iV set, iV total, lV cuts, iV t.v, .c t.ks, iV t.r] none)]⟩)
  (R := fun q => q ≤ cuts.length /\ (cuts.take q).all (setB f) = true) (m := fun q => cuts.length - q) 0 [(3, 3), (4, 4), (5, 5)] rfl rfl ⟨rfl, rfl, rfl, rfl, rfl, rfl, trivial⟩ (by simp) ⟨Nat.zero_le _, rfl⟩ ⟨rfl, rfl, rfl, trivial⟩ ?_
 rintro q ⟨hq0, hall⟩
 refine KW.goIf qQ0 qZ0 100 rfl (by simp) rfl trivial (fun h => ?_) fun h => ?_
 ·have hq : q < cuts.length := by simp at h; omega
  have hg : cuts.getD (Int.toNat (q : Int)) 0 = cuts[q] := by simp [List.getD_eq_getElem?_getD, hq]
  have htk : cuts.take (q + 1) = cuts.take q ++ [cuts[q]] := List.take_succ_eq_append_getElem hq
  have hmem := List.getElem_mem hq
  generalize cuts[q] = s at *
  cases hcs : setB f s with
  | false =>
    have hf : (cuts.all (setB f)) = false := by
     rw [List.all_eq_false]
     exact ⟨s, hmem, by rw [hcs]; decide⟩
    rw [hf, if_neg (by decide)] at hse
    rw [hse, if_neg (by decide)] at hrv
    refine KW.goIf qQ0 qZ0 100 rfl ?_ rfl trivial (fun h => ?_) fun h => absurd h ?_
    ·simp only [qQ1, qQ5, qX2, true_and, and_true, hg]
     simp [hvr, hq]
    ·refine KW.goOutR qQ0 qZ0 100 rfl (by simp) ?_
     refine KW.goRet qQ0 qZ0 100 rfl rfl ?_ (by simp) trivial
     rw [hrv]; rfl
    ·simp only [qQ1, qX2, hg, hcs]
     decide
  | true =>
    refine KW.goIf qQ0 qZ0 100 rfl ?_ rfl trivial (fun h => absurd h ?_) fun h => ?_
    ·simp only [qQ1, qQ5, qX2, true_and, and_true, hg]
     simp [hvr, hq]
    ·simp only [qQ1, qX2, hg, hcs]
     decide
    ·refine KW.goToR qQ0 qZ0 100 rfl (q + 1) [(3, 3), (4, 4), (5, 5)] rfl rfl ⟨rfl, rfl, rfl, rfl, rfl, rfl, trivial⟩ (by simp [inK]; omega) ⟨⟨by omega, ?_⟩, by omega⟩ ⟨rfl, rfl, rfl, trivial⟩
     rw [htk, List.all_append, hall]
     simp only [List.all_cons, List.all_nil, Bool.and_true, hcs, Bool.true_and]
 have hq : q = cuts.length := by simp at h; omega
 rw [hq, List.take_length] at hall
 have hcn : ∀ t ∈ cuts, inN n t := fun t ht => (set_in ok).1 (List.all_eq_true.1 hall t ht)
 rw [hall, if_pos rfl] at hse
 rw [hse, if_pos rfl] at hrv
 clear h hq0 hq hall
 refine KW.goOut qQ0 qZ0 100 rfl (by simp) ?_
 refine KW.goIf qQ0 qZ0 100 rfl (by simp [qZ7]) rfl trivial (fun h => ?_) fun h => ?_
 ·have h3 : splE t f.vars ≠ 0 := by simpa [qZ7] using h
  refine KW.goRet qQ0 qZ0 100 rfl rfl ?_ (by simp) trivial
  rw [hrv, decide_eq_false h3]; simp only [qZ7]; rfl
 have h3 : splE t f.vars = 0 := by simpa [qZ7] using h
 have hL : splL t f.vars = lvs t 0 0 := by rw [splL, if_pos h3]
 obtain ⟨hg, hc4⟩ := splE_g h3
 have hli := lvs_in t hg hct 0 0
 have hll := lvs_len t 0 0
 have hsz := szT_rng t
 have hcb := ok.costB
 have hlen := ok.len
 rw [hrv, h3]
 have e0 : decide ((0 : Int) = 0) = true := rfl
 rw [e0, Bool.true_and]
 have hrb : rvB f x ⟨set, total, cuts, t⟩ = (decide (qQ4 .i64 set x.state = 0) && decide (qV4 x set = total) && !qJ5 f (qQ4 .i64 x.state set) && cuts.all (cutB f x) && (lvs t 0 0).all (refB x cuts total)) := rfl
 rw [hrb]
 have htest := set_heal ok hset total
 have hcs : setB f set = true -> inN x.cost.length set := fun h => by rw [hlen]; exact (set_in ok).1 h
 clear h hrb
 refine KW.goD qQ0 qZ0 rfl 100 rfl (by decide +kernel) rfl ?_ ?_ ?_
 ·simp
 ·simp only [qQ1, qQ5, qQ2, qQ8, qX2, qX0]
  simp +contextual [hcb, hin, h0, hvr, hcs]
 simp only [qQ1, qQ2, qX2, qX0]
 refine KW.goIf qQ0 qZ0 100 rfl (by simp) rfl trivial (fun h => ?_) fun h => ?_
 ·have hb : (decide (qQ4 .i64 set x.state = 0) && decide (qV4 x set = total) && !qJ5 f (qQ4 .i64 x.state set)) = false := by
   have := htest.symm.trans h
   rwa [Bool.not_eq_true'] at this
  refine KW.goRet qQ0 qZ0 100 rfl rfl ?_ (by simp) trivial
  rw [hb]; rfl
 have hb : (decide (qQ4 .i64 set x.state = 0) && decide (qV4 x set = total) && !qJ5 f (qQ4 .i64 x.state set)) = true := by
  have := htest.symm.trans h
  rwa [Bool.not_eq_false'] at this
 rw [hb, Bool.true_and]
 clear h htest hb
 refine KW.goLpR qQ0 qZ0 100 rfl (I := fun q : Nat => ⟨Tryz.f17.ntmps, [(3, .e (.r 3)), (4, .e (.r 4)), (5, .e (.r 5)), (71, .e (lV cuts)), (72, sI cuts.length), (73, sI q)], [(3, .box 24 [iV f.vars, .c (qJ9 f.nodes), iV f.top] none), (4, .box 27 [iV x.state, lV x.cost] none), (5, .box 33 [iV set, iV total, lV cuts, iV t.v, .c t.ks, iV t.r] none)]⟩)
  (R := fun q => q ≤ cuts.length /\ (cuts.take q).all (cutB f x) = true) (m := fun q => cuts.length - q) 0 [(3, 3), (4, 4), (5, 5)] rfl rfl ⟨rfl, rfl, rfl, rfl, rfl, rfl, trivial⟩ (by simp) ⟨Nat.zero_le _, rfl⟩ ⟨rfl, rfl, rfl, trivial⟩ ?_
 rintro q ⟨hq0, hall⟩
 refine KW.goIf qQ0 qZ0 100 rfl (by simp) rfl trivial (fun h => ?_) fun h => ?_
 ·have hq : q < cuts.length := by simp at h; omega
  have hgx : cuts.getD (Int.toNat (q : Int)) 0 = cuts[q] := by simp [List.getD_eq_getElem?_getD, hq]
  have htk : cuts.take (q + 1) = cuts.take q ++ [cuts[q]] := List.take_succ_eq_append_getElem hq
  have hmem := List.getElem_mem hq
  generalize cuts[q] = s at *
  have htest : (qQ4 .i64 s x.state != 0 || !qJ5 f s) = !cutB f x s := by
   rw [cutB, Bool.not_and]
   congr 1
  refine KW.goIf qQ0 qZ0 100 rfl ?_ rfl trivial (fun h => ?_) fun h => ?_
  ·simp only [qQ1, qQ5, qX2, true_and, and_true, hgx]
   simp [hin, h0, hq]
  ·simp only [qQ1, qX2, hgx] at h
   have hcs2 : cutB f x s = false := by
    have := htest.symm.trans h
    rwa [Bool.not_eq_true'] at this
   have hf : (cuts.all (cutB f x)) = false := by
    rw [List.all_eq_false]
    exact ⟨s, hmem, by rw [hcs2]; decide⟩
   refine KW.goOutR qQ0 qZ0 100 rfl (by simp) ?_
   refine KW.goRet qQ0 qZ0 100 rfl rfl ?_ (by simp) trivial
   rw [hf]; rfl
  ·simp only [qQ1, qX2, hgx] at h
   have hcs2 : cutB f x s = true := by
    have := htest.symm.trans h
    rwa [Bool.not_eq_false'] at this
   refine KW.goToR qQ0 qZ0 100 rfl (q + 1) [(3, 3), (4, 4), (5, 5)] rfl rfl ⟨rfl, rfl, rfl, rfl, rfl, rfl, trivial⟩ (by simp [inK]; omega) ⟨⟨by omega, ?_⟩, by omega⟩ ⟨rfl, rfl, rfl, trivial⟩
   rw [htk, List.all_append, hall]
   simp only [List.all_cons, List.all_nil, Bool.and_true, hcs2, Bool.true_and]
 have hq : q = cuts.length := by simp at h; omega
 rw [hq, List.take_length] at hall
 rw [hall, Bool.true_and]
 clear h hq0 hq
 refine KW.goOut qQ0 qZ0 100 rfl (by simp) ?_
 refine KW.go qQ0 qZ0 100 rfl (by simp [qZ7]) ?_
 simp only [qZ7, hL, h3]
 generalize lvs t 0 0 = L at *
 refine KW.goLpR qQ0 qZ0 100 rfl (I := fun q : Nat => ⟨Tryz.f17.ntmps, [(4, .e (.r 4)), (5, .e (.r 5)), (97, .e (lvV L)), (98, sI L.length), (99, sI q)], [(4, .box 27 [iV x.state, lV x.cost] none), (5, .box 33 [iV set, iV total, lV cuts, iV t.v, .c t.ks, iV t.r] none)]⟩)
  (R := fun q => q ≤ L.length /\ (L.take q).all (refB x cuts total) = true) (m := fun q => L.length - q) 0 [(4, 4), (5, 5)] rfl rfl ⟨rfl, rfl, rfl, rfl, rfl, trivial⟩ (by simp) ⟨Nat.zero_le _, rfl⟩ ⟨rfl, rfl, trivial⟩ ?_
 rintro q ⟨hq0, hall2⟩
 refine KW.goIf qQ0 qZ0 100 rfl (by simp) rfl trivial (fun h => ?_) fun h => ?_
 ·have hq : q < L.length := by simp at h; omega
  have hgi : L.getD (Int.toNat (q : Int)) leaf0 = L[q] := by simp [List.getD_eq_getElem?_getD, hq]
  have htk : L.take (q + 1) = L.take q ++ [L[q]] := List.take_succ_eq_append_getElem hq
  have hmem := List.getElem_mem hq
  have hX := hli _ hmem
  refine KW.go qQ0 qZ0 100 rfl (by simp; omega) ?_
  refine KW.callV0 (refuted57_does x ⟨set, total, cuts, t⟩ (L.getD (Int.toNat (q : Int)) leaf0) hcb (by rw [hgi]; exact hX) (hlen.symm ▸ ok.st) (fun t ht => hlen.symm ▸ hcn t ht) (by simp only; omega)) (qQ9 Tryz.func55 rfl rfl) [] (.inl rfl) rfl rfl rfl rfl rfl trivial
   ⟨⟨_, _, rfl, trivial, (show Mt _ _ _ (EV.ren [] (.ag (qV3 x))) (.ag (qV3 x)) from .same)⟩, ⟨_, _, rfl, trivial, (show Mt _ _ _ (EV.ren [] (.ag (repC ⟨set, total, cuts, t⟩))) (.ag (repC ⟨set, total, cuts, t⟩)) from .same)⟩, ⟨_, _, rfl, trivial, (show Mt _ _ _ (EV.ren [] (.ag (leafL (L.getD (Int.toNat (q : Int)) leaf0)))) (.ag (leafL (L.getD (Int.toNat (q : Int)) leaf0))) from .same)⟩, trivial⟩ rfl (.inl rfl) ?_
  simp only [hgi]
  refine KW.goIf qQ0 qZ0 100 rfl (by simp) rfl trivial (fun h => ?_) fun h => ?_
  ·have hb : refB x cuts total L[q] = false := by
    have : (!refB x cuts total L[q]) = true := h
    rwa [Bool.not_eq_true'] at this
   have hf : (L.all (refB x cuts total)) = false := by
    rw [List.all_eq_false]
    exact ⟨_, hmem, by rw [hb]; decide⟩
   refine KW.goOutR qQ0 qZ0 100 rfl (by simp) ?_
   refine KW.goRet qQ0 qZ0 100 rfl rfl ?_ (by simp) trivial
   rw [hf]; rfl
  ·have hb : refB x cuts total L[q] = true := by
    have : (!refB x cuts total L[q]) = false := h
    rwa [Bool.not_eq_false'] at this
   refine KW.goToR qQ0 qZ0 100 rfl (q + 1) [(4, 4), (5, 5)] rfl rfl ⟨rfl, rfl, rfl, rfl, rfl, trivial⟩ (by simp [inK]; omega) ⟨⟨by omega, ?_⟩, by omega⟩ ⟨rfl, rfl, trivial⟩
   rw [htk, List.all_append, hall2]
   simp only [List.all_cons, List.all_nil, Bool.and_true, hb, Bool.true_and]
 have hq : q = L.length := by simp at h; omega
 rw [hq, List.take_length] at hall2
 rw [hall2]
 refine KW.goOut qQ0 qZ0 100 rfl (by simp) ?_
 exact KW.goRet qQ0 qZ0 100 rfl rfl rfl (by simp) trivial
end Go.Proofs.YtgoilpfpmbjegaaGreatDoor
end
section
namespace Go.Proofs.YtgoilpfpmbjegaaGreatDoor
open Go.Sy Go.Pu Go.Proofs.YtgoilpfpmbjegaaGreatDoor.Tr
attribute [local instance] Go.Sy.drwNo
def fFXR (g : FormP -> CasP -> RepP -> SV) (p : FormP -> CasP -> RepP -> Prop) : List EV -> Option (SV × Prop)
 | [.ag [.lit (.int .i64 a), x, .lit (.int .i64 b)], .ag [.lit (.int .i64 s), c], .ag [.lit (.int .i64 u), .lit (.int .i64 w), d, .lit (.int .i64 v), k, .lit (.int .i64 r)]] => some (g ⟨a, unN x, b⟩ ⟨s, unI c⟩ ⟨u, w, unI d, unTr v k r⟩, isN x /\ isI c /\ isI d /\ isKs k /\ p ⟨a, unN x, b⟩ ⟨s, unI c⟩ ⟨u, w, unI d, unTr v k r⟩)
 | _ => none
theorem rep_eq {d k : CV} {u w v r : Int} (h1 : isI d) (h3 : isKs k) : EvEq (.ag [.lit (.int .i64 u), .lit (.int .i64 w), d, .lit (.int .i64 v), k, .lit (.int .i64 r)]) (.ag (repC ⟨u, w, unI d, unTr v k r⟩)) := by
 have ht := tr_eq (a := v) (b := r) h3
 refine ⟨rfl, fun q y z hy hz => ?_⟩
 match q, hy, hz with
 | 0, hy, hz => simp [repC] at hy hz; subst hy; subst hz; exact CVEq.refl _
 | 1, hy, hz => simp [repC] at hy hz; subst hy; subst hz; exact CVEq.refl _
 | 2, hy, hz => simp [repC] at hy hz; subst hy; subst hz; exact h1
 | q + 3, hy, hz => exact ht.2 q y z (by simpa using hy) (by simpa [repC] using hz)
theorem fFXR_ok {P : Program} {f : FuncId} {g : FormP -> CasP -> RepP -> SV} {p : FormP -> CasP -> RepP -> Prop} (h : ∀ x c r, p x c r -> DoesF P f [.ag (qX5 x), .ag (qV3 c), .ag (repC r)] [] (g x c r) []) : ∀ ys y φ, fFXR g p ys = some (y, φ) -> φ -> DoesF P f ys [] y [] := by
 intro ys y φ he hφ
 unfold fFXR at he
 split at he
 ·simp only [Option.some.injEq, Prod.mk.injEq] at he
  obtain ⟨rfl, rfl⟩ := he
  obtain ⟨h1, h2, h3, h4, h5⟩ := hφ
  refine DoesF.conv ?_ (h _ _ _ h5)
  exact ⟨form_eq h1, case_eq h2, rep_eq h3 h4, trivial⟩
 ·cases he
def repSm (r : RepP) : Prop := r.tree.In /\ r.cuts.length ≤ 1099511627776 /\ rng r.set
def R4 : Fns := (12, fFX (fun f x => .tup [iV (lowV f x), eV (lowE f x)]) fun f _ => FormIn f) ::
 (14, fFX (fun f x => .tup [iV (lowV f x), iV (lowE f x)]) fun f _ => FormIn f) ::
 (19, fFX (fun f x => .tup [.ag (repC (rmkR f x)), iV (rmkE f x)]) fun f _ => FormIn f) ::
 (16, fFXR (fun f x r => .tup [bV (decide (rvE f x r = 0) && rvB f x r), eV (rvE f x r)]) fun f _ r => FormIn f /\ repSm r) ::
 (17, fFXR (fun f x r => .tup [bV (decide (rvE f x r = 0) && rvB f x r), iV (rvE f x r)]) fun f _ r => FormIn f /\ repSm r) ::
 R3
theorem R4_ok : FnsOk Tryz.prog R4 := .cons (.cons (.cons (.cons (.cons (qZ0) Tryz.func17 rfl rfl (fFXR_ok fun f x r h => rverify57_does f x r h.1 h.2.1 h.2.2.2)) Tryz.func16 rfl rfl (fFXR_ok fun f x r h => verify57_does f x r h.1 h.2.1 h.2.2.1)) Tryz.func19 rfl rfl (fFX_ok fun f x h => rmake57_does f x h)) Tryz.func14 rfl rfl (fFX_ok fun f x h => rlower57_does f x h)) Tryz.func12 rfl rfl (fFX_ok fun f x h => lower57_does f x h)
theorem broad57_does (f : FormP) (hin : FormIn f) (h0 : qJ2 f = 0) : DoesF Tryz.prog 28 [.ag (qX5 f)] [] (sB (broadF f)) [] := by
 refine DoesF.body _ Tryz.func28 rfl rfl rfl rfl ?_
 have ok := qY1 h0
 obtain ⟨vars, ns, top⟩ := f
 have hl := ok.len
 have hns := ok.nodes
 simp only at hl hns
 refine KW.goLpR qQ0 R4_ok 100 rfl (I := fun q : Nat × Int × Int => ⟨Tryz.f28.ntmps, [(3, sI q.2.1), (4, sI q.2.2), (8, .e (.c (qJ9 ns))), (9, sI ns.length), (10, sI q.1)], []⟩)
  (R := fun q => q.1 ≤ ns.length /\ q.2.1 + brA (ns.drop q.1) = brA ns /\ q.2.2 + brV (ns.drop q.1) = brV ns /\ 0 ≤ q.2.1 /\ q.2.1 ≤ 16 * q.1 /\ -300 * q.1 ≤ q.2.2 /\ q.2.2 ≤ 300 * q.1) (m := fun q => ns.length - q.1) (0, 0, 0) [] rfl rfl ⟨rfl, rfl, rfl, rfl, rfl, trivial⟩ (by simp) ⟨Nat.zero_le _, by simp, by simp, by simp, by simp, by simp, by simp⟩ trivial ?_
 rintro ⟨q, a, b⟩ ⟨g1, g2, g3, g4, g5, g6, g7⟩
 simp only at g1 g2 g3 g4 g5 g6 g7
 refine KW.goIf qQ0 R4_ok 100 rfl (by simp) rfl trivial (fun h => ?_) fun h => ?_
 ·have hq : q < ns.length := by simpa using h
  have hX : ns.getD (Int.toNat (q : Int)) qX1 = ns[q] := by simp [List.getD_eq_getElem?_getD, hq]
  have okX := hns q hq
  rw [List.drop_eq_getElem_cons hq, brA] at g2
  rw [List.drop_eq_getElem_cons hq, brV] at g3
  generalize ns[q] = X at hX okX g2 g3
  have h16 := argsB_le okX.cnt
  have hk := okX.k
  refine KW.goIf qQ0 R4_ok 100 rfl (by simp only [hX]; simp [hq, inK]; omega) rfl trivial (fun h => ?_) fun h => ?_
  ·have k4 : X.kind = 4 := by
    simp only [hX] at h
    simpa using h
   have hkr : 1 ≤ X.k /\ X.k ≤ X.args.length := by
    unfold kE at hk
    rw [k4] at hk
    simp only [Int.reduceEq, if_false, if_true] at hk
    split at hk
    ·cases hk
    ·omega
   rw [if_pos k4] at g3
   have p1 : (0 : Int) ≤ (X.args.length : Int) * ((X.args.length : Int) - X.k + 1) := Int.mul_nonneg (by omega) (by omega)
   have p2 : (X.args.length : Int) * ((X.args.length : Int) - X.k + 1) ≤ 16 * 16 := Int.mul_le_mul (by omega) (by omega) (by omega) (by omega)
   refine KW.goToR qQ0 R4_ok 100 rfl (q + 1, a + X.args.length, b + (X.args.length : Int) * ((X.args.length : Int) - X.k + 1)) [] rfl rfl ⟨by simp only [<-hX]; rfl, by simp only [<-hX]; rfl, rfl, rfl, rfl, trivial⟩ ?_ ⟨⟨by simp only; omega, by simp only; omega, by simp only; omega, by simp only; omega, by simp only; omega, by simp only; omega, by simp only; omega⟩, by simp only; omega⟩ trivial
   simp only [hX]
   generalize (X.args.length : Int) * ((X.args.length : Int) - X.k + 1) = P at *
   simp [inK]
   omega
  ·have k4 : ¬ X.kind = 4 := by
    simp only [hX] at h
    simpa using h
   rw [if_neg k4] at g3
   exact KW.goToR qQ0 R4_ok 100 rfl (q + 1, a + X.args.length, b) [] rfl rfl ⟨by simp only [<-hX]; rfl, rfl, rfl, rfl, rfl, trivial⟩ (by simp [inK]; omega) ⟨⟨by simp only; omega, by simp only; omega, by simp only; omega, by simp only; omega, by simp only; omega, by simp only; omega, by simp only; omega⟩, by simp only; omega⟩ trivial
 ·have hq : q = ns.length := by simp at h; omega
  rw [hq, List.drop_length] at g2 g3
  simp only [brA, brV, Int.add_zero] at g2 g3
  refine KW.goOut qQ0 R4_ok 100 rfl (by simp) ?_
  refine KW.goRet qQ0 R4_ok 100 rfl rfl ?_ (by simp) trivial
  simp only [SV.ren, EV.ren, broadF, <-g2, <-g3]
def R5 : Fns := (28, fF (fun f => sB (broadF f)) fun f => FormIn f /\ qJ2 f = 0) ::
 R4
theorem R5_ok : FnsOk Tryz.prog R5 := .cons (R4_ok) Tryz.func28 rfl rfl (fF_ok fun f h => broad57_does f h.1 h.2)
def litL (l : List Int) : Bool := (decide (60 < l.length) && decide (l.length ≤ 1024)) || decide (1200 < l.length)
def light57A (f : FormP) (x : CasP) (r : RepP) : Bool := decide (200 < f.nodes.length) || decide (60 < x.cost.length) || litL r.cuts || !fwB r.tree 300
def light57B (f : FormP) : Bool := (f.nodes.all fun x => decide (x.args.length ≤ 40)) && (decide (qJ2 f ≠ 0) || (decide (f.vars ≤ 8) && decide (f.nodes.length ≤ 20) && !broadF f))
def light57F (f : FormP) (x : CasP) (r : RepP) : Bool := !light57A f x r && light57B f
set_option maxHeartbeats 1600000 in
theorem light57_does (f : FormP) (x : CasP) (r : RepP) (hin : FormIn f) : DoesF Tryz.prog 9 [.ag (qX5 f), .ag (qV3 x), .ag (repC r)] [] (sB (light57F f x r)) [] := by
 refine DoesF.body _ Tryz.func9 rfl rfl rfl rfl ?_
 obtain ⟨vars, ns, top⟩ := f
 obtain ⟨st, cost⟩ := x
 obtain ⟨set, total, cuts, t⟩ := r
 refine KW.goIf qQ0 R5_ok 200 rfl ?_ rfl trivial (fun h => ?_) fun h => ?_
 ·simp +contextual [qZ7]
  omega
 ·have hA : light57A ⟨vars, ns, top⟩ ⟨st, cost⟩ ⟨set, total, cuts, t⟩ = true := by
   cases hfw : fwB t 300 <;> simp [hfw, qZ7, light57A, litL] at h ⊢ <;> omega
  refine KW.goRet qQ0 R5_ok 100 rfl rfl ?_ (by simp) trivial
  simp [SV.ren, EV.ren, light57F, hA]
 have hA : light57A ⟨vars, ns, top⟩ ⟨st, cost⟩ ⟨set, total, cuts, t⟩ = false := by
  cases hfw : fwB t 300 <;> simp [hfw, qZ7, light57A, litL] at h ⊢ <;> omega
 have h200 : ns.length ≤ 200 := by
  have := hA
  simp [light57A] at this
  omega
 have e : light57F ⟨vars, ns, top⟩ ⟨st, cost⟩ ⟨set, total, cuts, t⟩ = light57B ⟨vars, ns, top⟩ := by rw [light57F, hA]; rfl
 rw [e]
 refine KW.goLpR qQ0 R5_ok 100 rfl (I := fun q : Nat => ⟨Tryz.f9.ntmps, [(3, .e (.r 3)), (44, .e (.c (qJ9 ns))), (45, sI ns.length), (46, sI q)], [(3, .box 24 [iV vars, .c (qJ9 ns), iV top] none)]⟩)
  (R := fun q => q ≤ ns.length /\ (ns.drop q).all (fun x => decide (x.args.length ≤ 40)) = ns.all fun x => decide (x.args.length ≤ 40)) (m := fun q => ns.length - q) 0 [(3, 3)] rfl rfl ⟨rfl, rfl, rfl, rfl, trivial⟩ (by simp) ⟨by simp, by simp⟩ ⟨rfl, trivial⟩ ?_
 rintro q ⟨g1, g2⟩
 refine KW.goIf qQ0 R5_ok 100 rfl (by simp) rfl trivial (fun h => ?_) fun h => ?_
 ·have hq : q < ns.length := by simpa using h
  have hX : ns.getD (Int.toNat (q : Int)) qX1 = ns[q] := by simp [List.getD_eq_getElem?_getD, hq]
  rw [List.drop_eq_getElem_cons hq, List.all_cons] at g2
  generalize ns[q] = X at hX g2
  refine KW.goIf qQ0 R5_ok 100 rfl (by simp; omega) rfl trivial (fun h => ?_) fun h => ?_
  ·have h2 : ¬ X.args.length ≤ 40 := by
    have e : decide ((40 : Int) < ((ns.getD (Int.toNat (q : Int)) qX1).args.length : Int)) = true := h
    rw [hX, decide_eq_true_eq] at e; omega
   rw [decide_eq_false h2, Bool.false_and] at g2
   refine KW.goOutR qQ0 R5_ok 100 rfl (by simp) ?_
   refine KW.goRet qQ0 R5_ok 100 rfl rfl ?_ (by simp) trivial
   simp only [SV.ren, EV.ren, light57B, <-g2, Bool.false_and]
  ·have h2 : X.args.length ≤ 40 := by
    have e : decide ((40 : Int) < ((ns.getD (Int.toNat (q : Int)) qX1).args.length : Int)) = false := h
    rw [hX, decide_eq_false_iff_not] at e; omega
   rw [decide_eq_true h2, Bool.true_and] at g2
   exact KW.goToR qQ0 R5_ok 100 rfl (q + 1) [(3, 3)] rfl rfl ⟨rfl, rfl, rfl, rfl, trivial⟩ (by simp [inK]; omega) ⟨⟨by omega, g2⟩, by omega⟩ ⟨rfl, trivial⟩
 ·have hq : q = ns.length := by simp at h; omega
  rw [hq, List.drop_length] at g2
  refine KW.goOut qQ0 R5_ok 100 rfl (by simp) ?_
  refine KW.goRet qQ0 R5_ok 100 rfl rfl ?_ (by simp only [qQ1, qQ5, true_and, and_true, hin]; simp +contextual) trivial
  simp only [SV.ren, EV.ren, light57B, <-g2, qQ1]
  simp only [List.all_nil, Bool.true_and]
  congr 5
  ·rw [Bool.eq_iff_iff]; simp
  ·rw [show decide ((ns.length : Int) ≤ 20) = decide (ns.length ≤ 20) by rw [Bool.eq_iff_iff]; simp; omega]
def healF (f : FormP) (x : CasP) (s : Int) : Bool := decide (qQ4 .i64 s x.state = 0) && decide (qB5 f (qQ4 .i64 x.state s) = 0) && !valV f (qQ4 .i64 x.state s)
theorem heals57_does (f : FormP) (x : CasP) (s : Int) (hin : FormIn f) : DoesF Tryz.prog 23 [.ag (qX5 f), .ag (qV3 x), iV s] [] (sB (healF f x s)) [] := by
 refine DoesF.body _ Tryz.func23 rfl rfl rfl rfl ?_
 obtain ⟨vars, ns, top⟩ := f
 obtain ⟨st, cost⟩ := x
 refine KW.goRet qQ0 R5_ok 100 rfl rfl ?_ ?_ trivial
 ·simp only [SV.ren, EV.ren, qQ1, healF]
  congr 5
  simp
  rfl
 ·simp only [qQ1, qQ5, true_and, and_true, qQ7]
  simp [hin]
theorem cost57_does (x : CasP) (s : Int) (hx : CostB x) : DoesF Tryz.prog 24 [.ag (qV3 x), iV s] [] (sI (qV4 x s)) [] := by
 refine DoesF.body _ Tryz.func24 rfl rfl rfl rfl ?_
 have hl := hx.len
 have hc := hx.cost
 have hbd : ∀ q, q ≤ 24 -> 0 ≤ sumN (cst x) s q /\ sumN (cst x) s q ≤ 24 * 1048576 := fun q hq => by
  have := sumN_bound (c := cst x) (B := 1048576) (by decide) (fun i _ => hc i) s q hq
  omega
 have hhas := fun i (hi : i < 24) => hasB_nat s hi
 obtain ⟨st, cost⟩ := x
 simp only at hl
 refine KW.goLpR qQ0 R5_ok 100 rfl (I := fun q : Nat => ⟨Tryz.f24.ntmps, [(1, sI s), (5, sI (sumN (cst ⟨st, cost⟩) s q)), (9, .e (lV cost)), (10, sI cost.length), (11, sI q)], []⟩)
  (R := fun q => q ≤ cost.length) (m := fun q => cost.length - q) 0 [] rfl rfl ⟨rfl, rfl, rfl, rfl, rfl, trivial⟩ (by simp) (Nat.zero_le _) trivial ?_
 intro q hq0
 have hbq := hbd q (by omega)
 refine KW.goIf qQ0 R5_ok 100 rfl (by simp) rfl trivial (fun h => ?_) fun h => ?_
 ·have hq : q < cost.length := by simp at h; omega
  have hgc : cost.getD (Int.toNat (q : Int)) 0 = cst ⟨st, cost⟩ q := by rw [Int.toNat_natCast]; rfl
  have hci := hc q
  have hq24 := hhas q (by omega)
  have e : sumN (cst ⟨st, cost⟩) s (q + 1) = sumN (cst ⟨st, cost⟩) s q + if bit s q then cst ⟨st, cost⟩ q else 0 := rfl
  generalize sumN (cst ⟨st, cost⟩) s q = U at *
  refine KW.goIf qQ0 R5_ok 100 rfl (by simp; omega) rfl trivial (fun h => ?_) fun h => ?_
  ·have hb : hasB s (q : Int) = true := by simpa using h
   rw [hq24] at hb
   rw [hb, if_pos rfl] at e
   refine KW.goToR qQ0 R5_ok 100 rfl (q + 1) [] rfl rfl ⟨rfl, ?_, rfl, rfl, rfl, trivial⟩ ?_ ⟨by omega, by omega⟩ trivial
   ·rw [e, <-hgc]; rfl
   ·simp only [hgc]
    simp [inK]
    omega
  ·have hb : hasB s (q : Int) = false := by simpa using h
   rw [hq24] at hb
   rw [hb, if_neg (by decide), Int.add_zero] at e
   refine KW.goToR qQ0 R5_ok 100 rfl (q + 1) [] rfl rfl ⟨rfl, ?_, rfl, rfl, rfl, trivial⟩ (by simp [inK]; omega) ⟨by omega, by omega⟩ trivial
   rw [e]; rfl
 ·have hq : q = cost.length := by simp at h; omega
  subst hq
  refine KW.goOut qQ0 R5_ok 100 rfl (by simp) ?_
  exact KW.goRet qQ0 R5_ok 100 rfl rfl rfl (by simp) trivial
def R6 : Fns := (9, fFXR (fun f x r => sB (light57F f x r)) fun f _ _ => FormIn f) ::
 (23, fFXI (fun f x s => sB (healF f x s)) fun f _ _ => FormIn f) ::
 (24, fXI (fun x s => sI (qV4 x s)) fun x _ => CostB x) ::
 R5
theorem R6_ok : FnsOk Tryz.prog R6 := .cons (.cons (.cons (R5_ok) Tryz.func24 rfl rfl (fXI_ok fun x s h => cost57_does x s h)) Tryz.func23 rfl rfl (fFXI_ok fun f x s h => heals57_does f x s h)) Tryz.func9 rfl rfl (fFXR_ok fun f x r h => light57_does f x r h)
theorem unTr_nil : unTr 0 (.lit (.slice none 0 0)) 0 = Tr.no := Tr.ext rfl rfl rfl fun i hi => absurd hi (Nat.not_lt_zero _)
theorem isKs_nil : isKs (.lit (.slice none 0 0)) := ⟨rfl, rfl⟩
def rep0 : RepP := ⟨0, 0, [], .no⟩
def validF (f : FormP) (x : CasP) : Bool := light57F f x rep0 && decide (casE f x = 0)
theorem valid57_does (f : FormP) (x : CasP) (hin : FormIn f) : DoesF Tryz.prog 21 [.ag (qX5 f), .ag (qV3 x)] [] (sB (validF f x)) [] := by
 refine DoesF.body _ Tryz.func21 rfl rfl rfl rfl ?_
 refine KW.goRet qQ0 R6_ok 100 rfl rfl ?_ ?_ trivial
 ·simp only [SV.ren, EV.ren, qQ1, qQ2, unI_nil, unTr_nil, qX2, qX0]
  rfl
 ·simp only [qQ1, qQ5, qQ2, qQ8, unI_nil, isI_nil, unTr_nil, isKs_nil, true_and, and_true]
  simp [hin]
def R7 : Fns := (21, fFX (fun f x => sB (validF f x)) fun f _ => FormIn f) ::
 R6
theorem R7_ok : FnsOk Tryz.prog R7 := .cons (R6_ok) Tryz.func21 rfl rfl (fFX_ok fun f x h => valid57_does f x h)
end Go.Proofs.YtgoilpfpmbjegaaGreatDoor
end
section
namespace Go.Proofs.YtgoilpfpmbjegaaGreatDoor
open Go.Sy Go.Pu Go.Proofs.YtgoilpfpmbjegaaGreatDoor.Tr
attribute [local instance] Go.Sy.drwNo
def ex36N : List NodeP := [⟨2, 0, [1, 2]⟩, ⟨3, 0, [0, 3]⟩]
def ex36 : FormP := ⟨3, ex36N, 4⟩
def ex57 : CasP := ⟨7, [3, 2, 2]⟩
theorem example57_does : DoesF Tryz.prog 29 [] [] (.tup [.ag (qX5 ex36), .ag (qV3 ex57)]) [] := by
 refine DoesF.bodyC qQ0 _ Tryz.func29 rfl rfl rfl rfl ?_
 refine KW.go qQ0 R7_ok 100 rfl (by simp) ?_
 refine KW.frz1 2 rfl rfl rfl ?_
 refine KW.go qQ0 R7_ok 100 rfl (by simp) ?_
 refine KW.frz1 4 rfl rfl rfl ?_
 refine KW.go qQ0 R7_ok 100 rfl (by simp) ?_
 refine KW.frz1 6 rfl rfl rfl ?_
 refine KW.conv 6 (qJ9 ex36N) rfl ?_ ?_
 ·refine ⟨rfl, .inr ⟨rfl, fun e q he hq => ?_⟩⟩
  rcases (by omega : e = 0 ∨ e = 1) with rfl | rfl <;> rcases (by omega : q = 0 ∨ q = 1 ∨ q = 2) with rfl | rfl | rfl <;> exact CVEq.refl _
 refine KW.go qQ0 R7_ok 100 rfl (by simp) ?_
 refine KW.frz1 8 rfl rfl rfl ?_
 exact KW.goRetC qQ0 R7_ok 100 rfl rfl rfl (by simp) trivial
theorem ex36_in : FormIn ex36 := by
 have hk : ∀ n : Int, 0 ≤ n /\ n ≤ 9 -> inK .i64 n := fun n h => by simp only [inK]; omega
 refine ⟨hk 3 (by decide), hk 4 (by decide), fun x hx => ?_⟩
 simp only [ex36, ex36N, List.mem_cons, List.not_mem_nil, or_false] at hx
 rcases hx with rfl | rfl
 ·exact ⟨hk 2 (by decide), hk 0 (by decide), fun a ha => hk a (by simp at ha; omega)⟩
 ·exact ⟨hk 3 (by decide), hk 0 (by decide), fun a ha => hk a (by simp at ha; omega)⟩
theorem e36a : qX8 [] [2] = ([2], 0) := by rw [plus_ref]; decide +kernel
theorem e36b : qX8 [2] [4] = ([2, 4], 0) := by rw [plus_ref]; decide +kernel
theorem e36c : qJ7 [0] [1] = ([1], 0) := by rw [prod_ref]; decide +kernel
theorem e36d : qJ7 [1] [2, 4] = ([3, 5], 0) := by rw [prod_ref]; decide +kernel
theorem ex36_run : runP ex36N (fam0 3) = ([[1], [2], [4], [2, 4], [3, 5]], 0) := by
 rw [ex_fam]
 simp [runP, ex36N, qZ9, qB1, e36a, e36b, e36c, e36d]
theorem ex36_pathE : qV7 ex36 = 0 := by decide +kernel
theorem ex36_trim : trimF ex36 = ex36 := rfl
theorem ex36_paths : pathsE ex36 = 0 /\ qW5 ex36 = [3, 5] /\ qC2 ex36 = ([3, 5], 0) := by
 have e : pathsE ex36 = 0 := by
  unfold pathsE; rw [ex36_trim]
  show (runP ex36N (fam0 3)).2 = 0
  rw [ex36_run]
 have e2 : qW5 ex36 = [3, 5] := by
  rw [qW5, if_pos e, ex36_trim]
  show (runP ex36N (fam0 3)).1.getD 4 [] = _
  rw [ex36_run]; rfl
 exact ⟨e, e2, by rw [qC2, if_pos ex36_pathE, e, e2]⟩
theorem m35 : minS [3, 5] = [3, 5] := minS_of (by unfold Val; decide +kernel) (by unfold Val; decide +kernel) (by unfold Asc; decide +kernel) (by decide +kernel) (by decide +kernel) (by decide +kernel)
theorem m1536 : minS [1, 5, 3, 6] = [1, 6] := minS_of (by unfold Val; decide +kernel) (by unfold Val; decide +kernel) (by unfold Asc; decide +kernel) (by decide +kernel) (by decide +kernel) (by decide +kernel)
theorem s35 : singS 3 = [1, 2] /\ singS 5 = [1, 4] /\ qV0 [3, 5] = 0 := by decide +kernel
theorem u5 : unionsC [1, 2] [1, 4] = [1, 5, 3, 6] := by
 have e14 : minS [1, 4] = [1, 4] := minS_of (by unfold Val; decide +kernel) (by unfold Val; decide +kernel) (by unfold Asc; decide +kernel) (by decide +kernel) (by decide +kernel) (by decide +kernel)
 unfold unionsC
 rw [ex2, e14]
 decide +kernel
theorem all35 : allC [0] [3, 5] = ([1, 6], 0) := by
 have s1 : stepA [0] 3 = 0 /\ resA [0] 3 = [1, 2] := by
  unfold stepA resA
  rw [s35.1, u3, ex2]
  decide +kernel
 have s2 : stepA [1, 2] 5 = 0 /\ resA [1, 2] 5 = [1, 6] := by
  unfold stepA resA
  rw [s35.2.1, u5, m1536]
  decide +kernel
 simp only [allC, s1.1, s1.2, s2.1, s2.2, if_true]
theorem hit35 : hitE [3, 5] = 0 /\ hitL [3, 5] = [1, 6] := by
 unfold hitE hitL
 rw [m35, all35]
 simp [s35.2.2]
theorem ex57_cas : casE ex36 ex57 = 0 := by decide +kernel
theorem ex57_pos : posE ex36 = 0 := by decide +kernel
theorem ex57_rs : (rsV ex36 ex57).best = 3 /\ (rsV ex36 ex57).total = 5 := by decide +kernel
theorem ex57_che : cheV ex36 ex57 = (3, 5, 0) := by
 rw [cheV, if_pos ex57_cas, if_pos ex57_pos, ex57_rs.1, ex57_rs.2]
theorem ex57_cut : cutE ex36 = 0 /\ cutL ex36 ex57 = [1, 6] := by
 obtain ⟨e1, e2, e3⟩ := ex36_paths
 refine ⟨by rw [cutE, e3, if_pos rfl, e2, hit35.1], ?_⟩
 have e : cutL ex36 ex57 = (hitL (qW5 ex36)).filter fun s => decide (qQ4 .i64 s ex57.state = 0) := rfl
 rw [e, e2, hit35.2]
 decide +kernel
theorem m16 : minS [1, 6] = [1, 6] := minS_of (by unfold Val; decide +kernel) (by unfold Val; decide +kernel) (by unfold Asc; decide +kernel) (by decide +kernel) (by decide +kernel) (by decide +kernel)
theorem ex57_low : lowE ex36 ex57 = 0 /\ lowV ex36 ex57 = 5 := by
 have e : lowE ex36 ex57 = 0 := by rw [lowE, if_pos ex57_cas, if_pos ex57_cut.1, ex57_pos]
 refine ⟨e, ?_⟩
 rw [lowV, e, if_pos rfl, ex57_cut.2, m16]
 decide +kernel
theorem ex57_g0 : qA5 [1, 6] (enB ex57 [1, 6] 5) 25 0 0 0 = (.lf (-1), 1, 0) := by kernel_rfl
theorem ex57_grow : rmkG ex36 ex57 = (.lf (-1), 1, 0) := by
 have e : rmkG ex36 ex57 = qA5 [1, 6] (enB ex57 [1, 6] 5) 25 0 0 0 := by
  rw [rmkG, ex57_cut.2, ex57_rs.2]
 rw [e]
 exact ex57_g0
theorem ex57_make : rmkE ex36 ex57 = 0 /\ rmkR ex36 ex57 = ⟨3, 5, [1, 6], .lf (-1)⟩ := by
 have e : rmkE ex36 ex57 = 0 := by rw [rmkE, if_pos ex57_cas, if_pos ex57_pos, if_pos ex57_cut.1, ex57_grow]
 refine ⟨e, ?_⟩
 rw [rmkR, e, if_pos rfl, ex57_cut.2, ex57_rs.1, ex57_rs.2, ex57_grow]
end Go.Proofs.YtgoilpfpmbjegaaGreatDoor
end
section
namespace Go.Pu
open Go.Sy
variable [Drw]
theorem itoa_size {n : Int} (h0 : -9223372036854775808 ≤ n) (h1 : n ≤ 9223372036854775807) : (Lib.itoa n).length ≤ 20 := by
 have hl : (Lib.decDigits n.natAbs).length = Lib.nDigits n.natAbs := Lib.decDigits_length _
 have := nDig_le 18 n.natAbs (by omega)
 by_cases hneg : n < 0
 ·rw [show Lib.itoa n = 45 :: Lib.decDigits n.natAbs by rw [Lib.itoa, if_pos hneg], List.length_cons]; omega
 ·rw [show Lib.itoa n = Lib.decDigits n.natAbs by rw [Lib.itoa, if_neg hneg]; congr 1; omega]; omega
theorem showT_size (t : Tr) : gT t -> t.In -> ((showT t).length : Int) ≤ 30 * cntN t := by
 induction t using Tr.ind with
 | h t ih =>
   rw [gT_eq, Tr.in_iff, showT_eq, cntN_eq]
   rintro hg ⟨i1, i2, i3⟩
   simp only [inK] at i1 i2
   split at hg
   ·rename_i h2
    rw [if_pos h2, if_pos h2]
    obtain ⟨_, _, _, g0, g1⟩ := hg
    have h0 := ih 0 (by omega) g0 (i3 0 (by omega))
    have h1 := ih 1 (by omega) g1 (i3 1 (by omega))
    have hv := itoa_size (n := t.v) (by omega) (by omega)
    simp only [List.length_cons, List.length_append, List.length_nil]
    omega
   ·rename_i h2
    rw [if_neg h2, if_neg h2]
    have := itoa_size (n := t.r) (by omega) (by omega)
    omega
end Go.Pu
end
section
namespace Go.Sy
open Go.Sort Go.Lib Go.Shelf Go.Proofs
abbrev strV (s : ByteArray) : EV := .c (.lit (.string s))
theorem below_ext {o : Nat -> Tag} {w w' : World} (h : Go.RowKit.Below w.heap.size w w') : @Ext drwNo o w o w' :=
 letI : Drw := drwNo
 ⟨h.size, h.os, h.tape, h.output, Nat.le_refl _, fun b hb hl => ⟨hb, h.block b hl⟩, fun b hb hl => ⟨hb, h.block b hl⟩⟩
end Go.Sy
attribute [local instance] Go.Sy.drwNo
namespace Go.Sy
open Go.Sort Go.Lib Go.Shelf Go.Proofs
end Go.Sy
namespace Go.Pu
open Go.Sy
def strL (l : List UInt8) : ByteArray := ⟨l.toArray⟩
@[simp] theorem strL_size (l : List UInt8) : (strL l).size = l.length := by simp [strL, ByteArray.size]
@[simp] theorem strL_data (l : List UInt8) : (strL l).data.toList = l := by simp [strL]
@[simp] theorem strL_getD (l : List UInt8) (i : Nat) : (strL l).data.getD i 0 = l.getD i 0 := by simp [strL, List.getD_eq_getElem?_getD, Array.getD_eq_getD_getElem?]
theorem strL_append (a b : List UInt8) : strL a ++ strL b = strL (a ++ b) := by
 apply ByteArray.ext
 apply Array.ext'
 simp [strL]
end Go.Pu
namespace Go.Sy
end Go.Sy
end
section
namespace Go.Proofs.YtgoilpfpmbjegaaGreatDoor
open Go.Shelf
def layItoaT_ren : Go.Shelf.Ren := ⟨fun | 171 => 105 | 243 => 129 | 246 => 147 | 283 => 152 | 284 => 153 | 285 => 154 | 286 => 155 | 129 => 160 | 317 => 159 | 318 => 161 | 319 => 162 | 320 => 125 | 337 => 144 | 338 => 145 | n => n, fun | 3 => 3 | 9 => 9 | 2 => 2 | 4 => 4 | 171 => 170 | 0 => 0 | 53 => 158 | 37 => 114 | 5 => 5 | 173 => 172 | 212 => 177 | 51 => 156 | 20 => 20 | 213 => 178 | 46 => 140 | 232 => 168 | 233 => 169 | n => n, fun | 17 => 2 | 18 => 0 | 19 => 1 | n => n⟩
theorem layItoaT : Go.Proofs.LaysM.n171 Tryz.prog layItoaT_ren := {
 mixed := by kernel_rfl
 f129 := Tryz.func160.trans (congrArg some (by kernel_rfl))
 f171 := Tryz.func105.trans (congrArg some (by kernel_rfl))
 f243 := Tryz.func129.trans (congrArg some (by kernel_rfl))
 f246 := Tryz.func147.trans (congrArg some (by kernel_rfl))
 f283 := Tryz.func152.trans (congrArg some (by kernel_rfl))
 f284 := Tryz.func153.trans (congrArg some (by kernel_rfl))
 f285 := Tryz.func154.trans (congrArg some (by kernel_rfl))
 f286 := Tryz.func155.trans (congrArg some (by kernel_rfl))
 f317 := Tryz.func159.trans (congrArg some (by kernel_rfl))
 f318 := Tryz.func161.trans (congrArg some (by kernel_rfl))
 f319 := Tryz.func162.trans (congrArg some (by kernel_rfl))
 f320 := Tryz.func125.trans (congrArg some (by kernel_rfl))
 f337 := Tryz.func144.trans (congrArg some (by kernel_rfl))
 f338 := Tryz.func145.trans (congrArg some (by kernel_rfl))
 t0 := Tryz.underlying0
 a0 := Tryz.isAgg0
 z0 := Tryz.sizeOf0
 v0 := Tryz.zeroValue0
 t2 := Tryz.underlying2
 a2 := Tryz.isAgg2
 z2 := Tryz.sizeOf2
 v2 := Tryz.zeroValue2
 t3 := Tryz.underlying3
 a3 := Tryz.isAgg3
 z3 := Tryz.sizeOf3
 v3 := Tryz.zeroValue3
 t4 := Tryz.underlying4
 a4 := Tryz.isAgg4
 z4 := Tryz.sizeOf4
 v4 := Tryz.zeroValue4
 t5 := Tryz.underlying5
 a5 := Tryz.isAgg5
 z5 := Tryz.sizeOf5
 v5 := Tryz.zeroValue5
 t9 := Tryz.underlying9
 a9 := Tryz.isAgg9
 z9 := Tryz.sizeOf9
 v9 := Tryz.zeroValue9
 t20 := Tryz.underlying20
 a20 := Tryz.isAgg20
 z20 := Tryz.sizeOf20
 v20 := Tryz.zeroValue20
 t37 := Tryz.underlying114
 a37 := Tryz.isAgg114
 z37 := Tryz.sizeOf114
 v37 := Tryz.zeroValue114
 t46 := Tryz.underlying140
 a46 := Tryz.isAgg140
 z46 := Tryz.sizeOf140
 v46 := Tryz.zeroValue140
 t51 := Tryz.underlying156
 a51 := Tryz.isAgg156
 z51 := Tryz.sizeOf156
 v51 := Tryz.zeroValue156
 t53 := Tryz.underlying158
 a53 := Tryz.isAgg158
 z53 := Tryz.sizeOf158
 v53 := Tryz.zeroValue158
 t171 := Tryz.underlying170
 a171 := Tryz.isAgg170
 z171 := Tryz.sizeOf170
 v171 := Tryz.zeroValue170
 t173 := Tryz.underlying172
 a173 := Tryz.isAgg172
 z173 := Tryz.sizeOf172
 v173 := Tryz.zeroValue172
 t212 := Tryz.underlying177
 a212 := Tryz.isAgg177
 z212 := Tryz.sizeOf177
 v212 := Tryz.zeroValue177
 t213 := Tryz.underlying178
 a213 := Tryz.isAgg178
 z213 := Tryz.sizeOf178
 t232 := Tryz.underlying168
 a232 := Tryz.isAgg168
 z232 := Tryz.sizeOf168
 v232 := Tryz.zeroValue168
 t233 := Tryz.underlying169
 a233 := Tryz.isAgg169
 z233 := Tryz.sizeOf169
 v233 := Tryz.zeroValue169
 g17 := by kernel_rfl
 g18 := by kernel_rfl
 g19 := by kernel_rfl
 i0 := by kernel_rfl
 i2 := by kernel_rfl
 i3 := by kernel_rfl
 i4 := by kernel_rfl
 i5 := by kernel_rfl
 i9 := by kernel_rfl
 i20 := by kernel_rfl
 i37 := by kernel_rfl
 i46 := by kernel_rfl
 i51 := by kernel_rfl
 i53 := by kernel_rfl
 i171 := by kernel_rfl
 i173 := by kernel_rfl
 i212 := by kernel_rfl
 i232 := by kernel_rfl
 i233 := by kernel_rfl
 m17 := by kernel_rfl
 m18 := by kernel_rfl
 m19 := by kernel_rfl }
def layString_ren : Go.Shelf.Ren := ⟨fun | 169 => 69 | n => n, fun | 70 => 113 | 9 => 9 | 0 => 0 | 72 => 116 | 37 => 114 | 127 => 145 | 3 => 3 | 5 => 5 | n => n, fun | n => n⟩
theorem layString : Go.Proofs.Lays.n169 Tryz.prog layString_ren := {
 mixed := by kernel_rfl
 f169 := Tryz.func69.trans (congrArg some (by kernel_rfl))
 t0 := Tryz.underlying0
 a0 := Tryz.isAgg0
 z0 := Tryz.sizeOf0
 v0 := Tryz.zeroValue0
 t3 := Tryz.underlying3
 a3 := Tryz.isAgg3
 z3 := Tryz.sizeOf3
 v3 := Tryz.zeroValue3
 t9 := Tryz.underlying9
 a9 := Tryz.isAgg9
 z9 := Tryz.sizeOf9
 v9 := Tryz.zeroValue9
 t37 := Tryz.underlying114
 a37 := Tryz.isAgg114
 z37 := Tryz.sizeOf114
 v37 := Tryz.zeroValue114
 t70 := Tryz.underlying113
 a70 := Tryz.isAgg113
 z70 := Tryz.sizeOf113
 v70 := Tryz.zeroValue113
 t72 := Tryz.underlying116
 a72 := Tryz.isAgg116
 z72 := Tryz.sizeOf116
 v72 := Tryz.zeroValue116
 t127 := Tryz.underlying145
 a127 := Tryz.isAgg145
 z127 := Tryz.sizeOf145
 v127 := Tryz.zeroValue145 }
theorem extraString : Builder.Extra Tryz.prog layString_ren := {
 sizeBuilder := by kernel_rfl
 liesBuilder := by kernel_rfl
 t5 := Tryz.underlying5
 a5 := Tryz.isAgg5
 z5 := Tryz.sizeOf5
 v5 := Tryz.zeroValue5
 infoByte := by kernel_rfl
 cellsByte := by kernel_rfl
 sizeByte := by kernel_rfl
 neB5 := by decide }
end Go.Proofs.YtgoilpfpmbjegaaGreatDoor
end
section
namespace Go.Sy
open Go.Lib Go.Shelf
variable [Drw]
def bytesC (bs : List UInt8) : CV := .sl bs.length 1 fun e _ => .lit (.int .u8 ((bs.getD e 0).toNat : Int))
def byteV (b : UInt8) : Value := .int .u8 (b.toNat : Int)
section
variable {P : Program} {lay : Lay} {o o' : Nat -> Tag} {h h' : Nat -> Value} {A A' : St} {tm : Array Value} {w w' : World} {Q : Exit -> St -> Prop} {k : List K} {e : Exit}
theorem strCells_eq (s : ByteArray) : strCells s = s.data.toList.map byteV := rfl
theorem bytes_vs {i E : Nat} {bs : List UInt8} (hs : Sat o h A tm w) (hi : lk A.rs i = some (.own E (bytesC bs))) : w.ownsRow 0 E 1 (h i) bs.length (bs.map byteV) /\ ∀ b, (h i).ownBlock = some b -> o b = .hd i := by
 obtain ⟨vs, hown, htag, hvs⟩ := hs.res i _ hi
 have e : vs = bs.map byteV := by
  refine List.ext_getElem? fun j => ?_
  by_cases hj : j < bs.length
  ·obtain ⟨u, hu, hr⟩ := hvs j 0 hj (by omega)
   have h1 : u = byteV (bs.getD j 0) := hr.1
   rw [Nat.mul_one, Nat.add_zero] at hu
   rw [hu, h1, List.getElem?_map, List.getElem?_eq_getElem hj]
   simp [List.getD_eq_getElem?_getD, hj]
  ·have hl := hown.1
   rw [List.getElem?_eq_none (by omega), List.getElem?_eq_none (by simp; omega)]
 subst e
 exact ⟨hown, htag⟩
theorem bytes_rep {vs : List Value} {bs : List UInt8} (hv : vs = bs.map byteV) : ∀ e q, e < bs.length -> q < 1 -> ∃ u, vs[e * 1 + q]? = some u /\ RepV o w (.lit (byteV (bs.getD e 0))) u := by
 intro e q he hq
 obtain rfl : q = 0 := by omega
 refine ⟨byteV (bs.getD e 0), ?_, rfl, rfl⟩
 rw [hv, Nat.mul_one, Nat.add_zero, List.getElem?_map, List.getElem?_eq_getElem he]
 simp [List.getD_eq_getElem?_getD, he]
theorem appS_step (hl : qJ1 P lay) {op : Oper} {c : Call} {d i E t u sz : Nat} {ag : Bool} {zz zu : List Value} {sl x : Operand} {p q : Prop} {bs : List UInt8} {s : ByteArray}
  (ho : op.op = .call c) (hd : op.dst = some d) (hlt : Nat.blt d A.n = true) (hf : qW9 A d = true) (hc : c.callee = .builtin .append) (ha : c.args = #[sl, x]) (hta : c.argTypes = #[t, u])
  (hT : lk lay t = some ⟨sz, ag, .sl E 1 1, zz⟩) (hE : lk lay E = some ⟨1, false, .int .u8, [.int .u8 0]⟩) (hU : lk lay u = some ⟨1, false, .str, zu⟩)
  (hr : rd A sl = some (.r i, p)) (hp : p) (hi : lk A.rs i = some (.own E (bytesC bs))) (hx : rd A x = some (.c (.lit (.string s)), q)) (hq : q) (hlen : bs.length + s.size ≤ 140737488355328) :
  OpStep P op A ⟨A.n, (d, .e (.r d)) :: A.sl, (d, .own E (bytesC (bs ++ s.data.toList))) :: (i, .gone) :: A.rs⟩ := by
 intro o h tm w hs
 have hlt : d < A.n := by simpa [Nat.blt, Nat.succ_le_iff] using hlt
 have hsv : evl tm sl = h i := qY6 hs hr hp
 have hxv : evl tm x = .string s := (qY6 hs hx hq).1
 obtain ⟨hu, hes, i0, hinfo, hisz, hiby⟩ := sl_elem hl hT
 obtain ⟨iE, z, hiE, hszE, hzE, hzcE, _, hz1⟩ := (hl _ _ hE).info
 rw [hinfo] at hiE
 cases hiE
 have hz0 : z = .int .u8 0 := by
  have e1 := hz1 rfl
  simp only [e1] at hzcE
  simpa using hzcE
 subst hz0
 have hus : P.underlying u = some .string := by
  obtain ⟨du, g1, g2⟩ := (hl _ _ hU).td
  rw [g1]
  cases du <;> simp [tdB] at g2 ⊢
 have hrun : ∀ {v w'}, (Builtin.append_ #[t, u] op.type #[h i, .string s]).run P w = .ok v w' -> (∃ o' h', Sat o' h' ⟨A.n, (d, .e (.r d)) :: A.sl, (d, .own E (bytesC (bs ++ s.data.toList))) :: (i, .gone) :: A.rs⟩ (tm.setIfInBounds d v) w' /\ Ext o w o' w') ->
   ∃ x v w' o' h', (execOp (evl tm) op).run P w = .ok x w' /\ (x = .value v ∨ (x = .skip /\ v = undef)) /\ Sat o' h' ⟨A.n, (d, .e (.r d)) :: A.sl, (d, .own E (bytesC (bs ++ s.data.toList))) :: (i, .gone) :: A.rs⟩ ((⟨tm, []⟩ : Act).put op.dst v).tmps w' /\ Ext o w o' w' := by
  rintro v w' hr ⟨o', h', h1, h2⟩
  refine ⟨_, v, w', o', h', ?_, .inl rfl, by simpa only [Act.put, hd] using h1, h2⟩
  simp only [execOp, ho, resolve, hc, invoke, builtin, ha, hta]
  simp [hsv, hxv, hr]
 obtain ⟨hown, htag⟩ := bytes_vs hs hi
 have hlenS : s.data.toList.length = s.size := by rw [Array.length_toList]; rfl
 have hnm : (bs ++ s.data.toList).length = bs.length + s.size := by rw [List.length_append, hlenS]
 have hbC : bytesC (bs ++ s.data.toList) = .sl (bs.length + s.size) 1 fun e q => .lit (byteV ((bs ++ s.data.toList).getD e 0)) := by rw [<-hnm]; rfl
 have hvs : (bs ++ s.data.toList).map byteV = bs.map byteV ++ strCells s := by rw [List.map_append]; rfl
 have grow : ∀ old : Nat, (∃ o' h', Sat o' h' ⟨A.n, (d, .e (.r d)) :: A.sl, (d, .own E (bytesC (bs ++ s.data.toList))) :: (i, .gone) :: A.rs⟩ (tm.setIfInBounds d (.slice (some ⟨w.heap.size, 0, none⟩) (bs.length + s.size) (grownCap w (bs.length + s.size) old E)))
   (w.drew.alloc (.cells ((bs.map byteV).toArray ++ (strCells s).toArray ++ Builtin.zeroCells (Value.int .u8 0).cells (grownCap w (bs.length + s.size) old E - (bs.length + s.size))) E)) /\ Ext o w o' (w.drew.alloc (.cells ((bs.map byteV).toArray ++ (strCells s).toArray ++ Builtin.zeroCells (Value.int .u8 0).cells (grownCap w (bs.length + s.size) old E - (bs.length + s.size))) E))) := by
  intro old
  have hge := grownCap_ge w (bs.length + s.size) old E
  have hcm := grownCap_le_maxLen w (bs.length + s.size) old E (by simp only [maxLen]; omega)
  generalize grownCap w (bs.length + s.size) old E = G at *
  have hl1 : (bs.map byteV ++ strCells s).length = bs.length + s.size := by rw [List.length_append, List.length_map, strCells_length]
  obtain ⟨o', h', hs', hx'⟩ := Sat.newRow (hs.drew) hlt hf (E := E) (k := 1) (n := bs.length + s.size) (cap := G) (cur := (bs.map byteV).toArray ++ (strCells s).toArray ++ Builtin.zeroCells (Value.int .u8 0).cells (G - (bs.length + s.size)))
   (f := fun e q => .lit (byteV ((bs ++ s.data.toList).getD e 0))) hge hcm (by
    have hz1 : (Value.int IntKind.u8 0).cells.size = 1 := rfl
    simp only [Array.size_append, List.size_toArray, size_zeroCells, hz1, strCells_length, List.length_map]
    omega) (fun e q he hq => by
    obtain ⟨u, hu, hx⟩ := bytes_rep (o := o) (w := w) hvs.symm e q (by rw [hnm]; exact he) hq
    refine ⟨u, ?_, hx.drew⟩
    rw [<-Array.getElem?_toList]
    simp only [Array.toList_append]
    rw [List.getElem?_append_left (by rw [List.length_append, List.length_map, strCells_length]; omega)]
    exact hu)
  rw [hbC]
  exact ⟨o', h', hs'.gone i rfl, (Ext.drew o w).trans hx'⟩
 rcases hown.2 with ⟨h0, hn0⟩ | ⟨g, cap, cur, h0, _, hg, hnc, hcm, hcs, htake⟩
 ·have hb0 : bs = [] := List.length_eq_zero_iff.1 hn0
  by_cases hm : s.size = 0
  ·have e2 : s.data.toList = [] := List.length_eq_zero_iff.1 (by omega)
   refine hrun (v := .slice none 0 0) (w' := w) ?_ ?_
   ·rw [h0]
    have hf' := run_firstCells_string (P := P) w i0.size s
    rw [hm, strCells_eq, e2] at hf'
    have hk0 : (Builtin.firstCells i0.size 0 (.string s)).run P w = .ok #[] w := hf'
    simp [Builtin.append_, run_underlying hu, run_underlying hus, sizeOf, typeInfo, hinfo, hisz, Builtin.lenOf, hm, Builtin.firstCells]
   ·rw [<-h0, e2, List.append_nil]
    exact Sat.rename hs hlt hf hi fun e q _ _ => rfl
  ·have hr := run_append_nil_string (P := P) w t u op.type E i0 (.int .u8 0) hu hus hinfo hzE s (by omega) (by omega) (by rw [hiby]; omega)
   have hgr := grow 0
   rw [hb0] at hgr
   rw [hb0]
   simp only [List.map_nil, List.length_nil, Nat.zero_add, Array.empty_append] at hgr ⊢
   have e1 : (s.data.map fun b => Value.int .u8 b.toNat) = (strCells s).toArray := by
    apply Array.ext'
    simp [strCells]
   rw [e1] at hr
   rw [hb0] at hrun
   refine hrun (by rw [h0]; exact hr) hgr
 ·by_cases hroom : bs.length + s.size ≤ cap
  ·have hcs' : cur.size = cap := by simpa using hcs
   have hr := run_append_room_string (P := P) w t u op.type E i0 hu hus hinfo hisz g bs.length cap cur hg s hroom (by omega)
   refine hrun (by rw [h0]; exact hr) ?_
   rw [hbC]
   have ht' : cur.toList.take bs.length = bs.map byteV := by simpa using htake
   refine Sat.inPlace hs hlt hf hg (htag g (by rw [h0]; rfl)) hroom hcm ?_ fun e q he hq => ?_
   ·simp only [List.size_toArray, List.length_append, List.length_take, List.length_drop, Array.length_toList, strCells_length]
    omega
   ·obtain ⟨u, hu, hx⟩ := bytes_rep (o := o) (w := w) hvs.symm e q (by rw [hnm]; exact he) hq
    refine ⟨u, ?_, hx⟩
    rw [List.getElem?_toArray, ht', List.getElem?_append_left (by rw [List.length_append, List.length_map, strCells_length]; omega)]
    exact hu
  ·have holds : ∀ j u, (bs.map byteV)[j]? = some u -> w.cell? ((⟨g, 0, none⟩ : Addr).add j) = some u := hown.cells (g := g) (by rw [h0]; rfl)
   have hr := run_append_grow_string (P := P) w t u op.type E i0 (.int .u8 0) hu hus hinfo hzE ⟨g, 0, none⟩ bs.length cap (bs.map byteV) (by rw [hisz]; simp) holds s (by omega) (by omega) (by rw [hiby]; exact growslice_fits (by omega) (by omega))
   exact hrun (by rw [h0]; exact hr) (grow cap)
theorem KW.appS (hl : qJ1 P lay) {all : Array Oper} {op : Oper} {rest : List Oper} {c : Call} {d i E t u sz : Nat} {ag : Bool} {zz zu : List Value} {sl x : Operand} {p q : Prop} {bs : List UInt8} {s : ByteArray}
  (hg : op.guard = none) (ho : op.op = .call c) (hd : op.dst = some d) (hlt : Nat.blt d A.n = true) (hf : qW9 A d = true) (hc : c.callee = .builtin .append) (ha : c.args = #[sl, x]) (hta : c.argTypes = #[t, u])
  (hT : lk lay t = some ⟨sz, ag, .sl E 1 1, zz⟩) (hE : lk lay E = some ⟨1, false, .int .u8, [.int .u8 0]⟩) (hU : lk lay u = some ⟨1, false, .str, zu⟩)
  (hr : rd A sl = some (.r i, p)) (hp : p) (hi : lk A.rs i = some (.own E (bytesC bs))) (hx : rd A x = some (.c (.lit (.string s)), q)) (hq : q) (hlen : bs.length + s.size ≤ 140737488355328)
  (hn : KW P (.ops all rest :: k) .normal ⟨A.n, (d, .e (.r d)) :: A.sl, (d, .own E (bytesC (bs ++ s.data.toList))) :: (i, .gone) :: A.rs⟩ Q) : KW P (.ops all (op :: rest) :: k) .normal A Q :=
 KW.op hg (appS_step hl ho hd hlt hf hc ha hta hT hE hU hr hp hi hx hq hlen) hn
theorem argsOne {args : Array Value} {a : Value} (hs : args.size = 1) (h0 : args.getD 0 undef = a) : args = #[a] := by
 match args, hs with
 | ⟨[x]⟩, _ => simp at h0; subst h0; rfl
theorem KW.runV {all : Array Oper} {op : Oper} {rest : List Oper} {d : Nat} (sv : SV) (hg : op.guard = none) (hd : op.dst = some d) (hlt : Nat.blt d A.n = true)
  (hr : ∀ o h tm w, Sat o h A tm w -> ∃ v, (execOp (evl tm) op).run P w = .ok (.value v) w /\ SvOk o h w sv v) (hn : KW P (.ops all rest :: k) .normal ⟨A.n, (d, sv) :: A.sl, A.rs⟩ Q) : KW P (.ops all (op :: rest) :: k) .normal A Q := by
 refine KW.op hg (fun o h tm w hs => ?_) hn
 obtain ⟨v, h1, h2⟩ := hr o h tm w hs
 have hlt : d < A.n := by simpa [Nat.blt, Nat.succ_le_iff] using hlt
 refine ⟨_, v, w, o, h, h1, .inl rfl, ?_, Ext.refl o w⟩
 simp only [Act.put, hd]
 exact hs.put hlt h2
theorem run_exec_eqnil {op : Oper} {T T2 : TypeId} {x : Operand} {p : Option Addr} (ho : op.op = .binOp .eql T x (.const (.pointer none)) T2) (hx : evl tm x = .pointer p) (hT : P.underlying T = some (.pointer (P.pointee T))) :
  (execOp (evl tm) op).run P w = .ok (.value (.bool p.isNone)) w := by
 simp only [execOp, ho, hx]
 refine qD6 ?_
 have hgd : (eqGuard .eql T x (.const (.pointer none)) (.pointer p) (.pointer none)).run P w = .ok () w := by
  unfold eqGuard; split <;> first | rfl | simp_all
 have hc : evl tm (.const (.pointer none)) = .pointer none := rfl
 simp only [hc, Sem.run_bind, hgd, Result.andThen_ok]
 exact run_eql_pointer_nil w T p hT
theorem run_exec_neqsame {op : Oper} {T T2 te : TypeId} {j : TypeInfo} {x y : Operand} {a : Addr} (ho : op.op = .binOp .neq T x y T2) (hx : evl tm x = .pointer (some a)) (hy : evl tm y = .pointer (some a)) (hp : P.underlying T = some (.pointer te)) (hte : P.info? te = some j) :
  (execOp (evl tm) op).run P w = .ok (.value (.bool false)) w := by
 simp only [execOp, ho, hx, hy]
 refine qD6 ?_
 have hgd : (eqGuard .neq T x y (.pointer (some a)) (.pointer (some a))).run P w = .ok () w := by
  unfold eqGuard; split <;> first | rfl | simp_all
 simp only [Sem.run_bind, hgd, Result.andThen_ok]
 exact run_neq_ptr_same w a hp hte
theorem Sat.shape (hs : Sat o h A tm w) {i T : Nat} {cs : List EV} {bk : Option Nat} (hi : lk A.rs i = some (.box T cs bk)) : ∃ b, h i = .pointer (some ⟨b, 0, none⟩) /\ w.shape? b = some (T, cs.length) := by
 obtain ⟨b, vs, h0, h1, h2, h3, h4, h5⟩ := hs.res i _ hi
 exact ⟨b, h1, by simp [World.shape?, h2, h4]⟩
open Go.RowKit Go.Proofs in
set_option maxHeartbeats 1000000 in
set_option maxRecDepth 100000 in
theorem string_raw {ρ : Ren} (L : Go.Proofs.Lays.n169 P ρ) (X : Go.Proofs.Builder.Extra P ρ) {b g cap : Nat} {p : Value} {cur : Array Value} {l : List UInt8} (h0 : l ≠ []) (hbk : w.heap[b]? = some (.cells #[p, .slice (some ⟨g, 0, none⟩) l.length cap] (ρ.t 72) (0, 0)))
  (hg : w.heap[g]? = some (.cells cur (ρ.t 5) (0, 0))) (hnc : l.length ≤ cap) (hcm : cap ≤ maxLen) (hcs : cur.size = cap) (hrow : ∀ (j : Nat) x, l[j]? = some x -> w.cell? ((⟨g, 0, none⟩ : Addr).add j) = some (byteV x)) :
  Calls P (ρ.f 169) #[.pointer (some ⟨b, 0, none⟩)] w fun e w' => e = .returned (.string ⟨l.toArray⟩) /\ w' = w.drew.freeze ⟨g, 0, none⟩ l.length := by
 have hl0 : l.length ≠ 0 := by simpa using h0
 have c1 : w.drew.cell? ⟨b, 1, none⟩ = some (.slice (some ⟨g, 0, none⟩) l.length cap) := by
  rw [cell_of_heap (w := w.drew) hbk]; rfl
 have hSD : (Builtin.unsafeSliceData_ #[ρ.t 37] (ρ.t 127) #[.slice (some ⟨g, 0, none⟩) l.length cap]).run P w.drew = .ok (.pointer (some ⟨g, 0, none⟩)) w.drew := run_unsafeSliceData_row _ _ _ _ _ _ (by omega)
 have hUS := run_unsafeString_row (P := P) w.drew (ρ.t 127) (ρ.t 3) (ρ.t 9) (ρ.t 5) L.t127 X.cellsByte g cur.size (by have e : w.drew.heap[g]? = some (.cells cur (ρ.t 5) (0, 0)) := hg; simp [World.shape?, e]) l h0 (by omega) (by unfold maxLen at hcm; omega) hrow
 have mixed := L.mixed
 have a72 := L.a72; have z72 := L.z72; have v72 := L.v72; have u72 := run_underlying L.t72
 have a70 := L.a70; have z70 := L.z70; have v70 := L.v70; have u70 := run_underlying L.t70
 have a37 := L.a37; have z37 := L.z37; have v37 := L.v37; have u37 := run_underlying L.t37
 have a127 := L.a127; have z127 := L.z127; have v127 := L.v127; have u127 := run_underlying L.t127
 have a3 := L.a3; have z3 := L.z3; have v3 := L.v3; have u3 := run_underlying L.t3
 have a9 := L.a9; have z9 := L.z9; have v9 := L.v9; have u9 := run_underlying L.t9
 have a5 := X.a5; have z5 := X.z5; have v5 := X.v5; have u5 := run_underlying X.t5
 have t72 := L.t72; have t70 := L.t70; have t37 := L.t37; have t127 := L.t127; have t3 := L.t3; have t9 := L.t9; have t5 := X.t5
 go_enter L.f169, Body.n169_ntmps ρ
 go_wp2
 go_region_o
 all_goals (go_wp2; go_ret; exact ⟨rfl, rfl⟩)
theorem string_does {ρ : Ren} (L : Go.Proofs.Lays.n169 P ρ) (X : Go.Proofs.Builder.Extra P ρ) {F T E : Nat} (hF : ρ.f 169 = F) (hT : ρ.t 72 = T) (hE : ρ.t 5 = E) {bs : List UInt8} (h0 : bs ≠ []) (y : EV) (bk : Option Nat) :
  DoesF P F [.r 0] [(0, .box T [y, .r 1] bk), (1, .own E (bytesC bs))] (.e (.c (.lit (.string ⟨bs.toArray⟩)))) [] := by
 subst hF; subst hT; subst hE
 intro o h args w hs
 obtain ⟨b, vs, hbk0, h1, h2, h3, h4, h5⟩ := hs.res 0 (.box (ρ.t 72) [y, .r 1] bk) rfl
 have a0 : args.getD 0 undef = h 0 := hs.slot 0 (.e (.r 0)) rfl
 have hargs := argsOne (by exact hs.size) (a0.trans h1)
 subst hargs
 obtain ⟨hown, htag⟩ := bytes_vs hs (i := 1) (E := ρ.t 5) (bs := bs) rfl
 obtain ⟨u0, hu0, _, _⟩ := h5 0 _ rfl
 obtain ⟨u1, hu1, _, he1⟩ := h5 1 _ rfl
 have he1 : u1 = h 1 := he1
 subst he1
 have hvs : vs = #[u0, h 1] := by
  have hsz : vs.size = 2 := h4
  refine Array.ext_getElem? fun j => ?_
  match j with
  | 0 => rw [hu0]; rfl
  | 1 => rw [hu1]; rfl
  | j + 2 => rw [Array.getElem?_eq_none (by omega), Array.getElem?_eq_none (by simp)]
 subst hvs
 rcases hown.2 with ⟨_, hn0⟩ | ⟨g, cap, cur, hv, _, hg, hnc, hcm, hcs, htake⟩
 ·exact absurd (List.length_eq_zero_iff.1 hn0) h0
 ·rw [hv] at h2 hown
  have htg := htag g (by rw [hv]; rfl)
  refine (string_raw L X h0 h2 hg hnc hcm (by simpa using hcs) fun j x hx => hown.cells (g := g) rfl j _ (by rw [List.getElem?_map, hx]; rfl)).mono ?_
  rintro e w' ⟨rfl, rfl⟩
  have hoth : ∀ b', b' ≠ g -> (w.drew.freeze ⟨g, 0, none⟩ bs.length).heap[b']? = w.heap[b']? := fun b' hne => by
   have hl0 : bs.length ≠ 0 := by simpa using h0
   unfold World.freeze
   rw [if_neg hl0]
   show (w.heap.modify g _)[b']? = _
   simp [Array.getElem?_modify, Ne.symm hne]
  have hsz : (w.drew.freeze ⟨g, 0, none⟩ bs.length).heap.size = w.heap.size := by
   have hl0 : bs.length ≠ 0 := by simpa using h0
   unfold World.freeze
   rw [if_neg hl0]
   show (w.heap.modify g _).size = _
   simp
  have hfz : w.drew.freeze ⟨g, 0, none⟩ bs.length = { w.drew with heap := (w.drew.freeze ⟨g, 0, none⟩ bs.length).heap } := by
   have hl0 : bs.length ≠ 0 := by simpa using h0
   unfold World.freeze
   rw [if_neg hl0]
  have hsh : ∀ b', o b' = .sh -> b' ≠ g := by rintro b' hb' rfl; rw [htg] at hb'; cases hb'
  have hno : ∀ b', o b' = .no -> b' ≠ g := by rintro b' hb' rfl; rw [htg] at hb'; cases hb'
  refine ⟨_, o, h, rfl, ⟨rfl, fun b' => by rw [hsz]; exact hs.tags b', fun s x hl => ?_, fun i r hl => by simp [lk] at hl⟩, ⟨by rw [hsz]; exact Nat.le_refl _, by rw [hfz]; rfl, by rw [hfz]; rfl, by rw [hfz]; rfl, by rw [hfz]; exact Drw.mono _ _ (Nat.le_succ w.drawn), fun b' hb' _ => ⟨hb', hoth b' (hsh b' hb')⟩, fun b' hb' _ => ⟨hb', hoth b' (hno b' hb')⟩⟩⟩
  rw [qQ3] at hl
  split at hl
  ·rename_i e; subst e; cases hl; exact ⟨rfl, rfl⟩
  ·simp [lk] at hl
end
end Go.Sy
end
section
namespace Go.Proofs.YtgoilpfpmbjegaaGreatDoor.Tr
open Go.Sy Go.Pu
section
variable [Drw]
abbrev buR (p : EV) (X : CV) (b : Nat) : List (Nat × Res) := [(0, .box 116 [p, .r 1] (some b)), (1, .own 5 X)]
theorem ptrB {p : EV} {b : Nat} (s : Nat) (A : St) (hr : lk A.rs 0 = some (.box 116 [p, .r 1] (some b))) (hl : lk A.sl s = some (.e (.r 0))) (o h tm w) (hs : Sat o h A tm w) : ∃ b', h 0 = .pointer (some ⟨b', 0, none⟩) /\ evl tm (.tmp s) = .pointer (some ⟨b', 0, none⟩) /\ w.shape? b' = some (116, 2) := by
 obtain ⟨b', hb, hsh⟩ := hs.shape hr
 exact ⟨b', hb, (show evl tm (.tmp s) = h 0 from hs.slot s _ hl).trans hb, hsh⟩
theorem infoB : ∃ j, Tryz.prog.info? 116 = some j /\ j.size = 2 := by
 have h2 : (Tryz.prog.info? 116).map (·.size) = some 2 := by kernel_rfl
 obtain ⟨j, h3, h4⟩ := Option.map_eq_some_iff.1 h2
 exact ⟨j, h3, h4⟩
theorem checkF_does (n : Nat) (f : Nat -> Nat -> CV) (b : Nat) : DoesF Tryz.prog 128 [.r 0] (buR (.c (.lit (.pointer none))) (.sl n 1 f) b) (.tup []) (buR (.r 0) (.sl n 1 f) b) := by
 refine DoesF.body _ Tryz.func128 rfl rfl rfl rfl ?_
 refine KW.go qQ0 (.nil _) 100 rfl (by simp) ?_
 refine KW.runV (sB true) rfl rfl rfl (fun o h tm w hs => ⟨_, run_exec_eqnil (p := none) rfl (show RepV o w (.lit (.pointer none)) (evl tm (.tmp 5)) from hs.slot 5 (.e (.c (.lit (.pointer none)))) rfl).1 (by kernel_rfl), rfl, rfl⟩) ?_
 refine KW.goIf qQ0 (.nil _) 100 rfl (by simp) rfl trivial (fun h => ?_) fun h => by cases h
 refine KW.go qQ0 (.nil _) 100 rfl (by simp) ?_
 obtain ⟨j, hj, hjs⟩ := infoB
 refine KW.runV (.e (.r 0)) rfl rfl rfl (fun o h tm w hs => ?_) ?_
 ·obtain ⟨b', hb, hx, hsh⟩ := ptrB 8 _ rfl rfl o h tm w hs
  refine ⟨_, ?_, hb.symm⟩
  simp only [execOp, hx]
  exact qD6 (Go.Lib.run_to_unsafe w ⟨b', 0, none⟩ (by kernel_rfl) (by kernel_rfl) hj (by rw [hjs]; decide) hsh (Nat.zero_lt_succ 1))
 refine KW.runV (.e (.r 0)) rfl rfl rfl (fun o h tm w hs => ?_) ?_
 ·obtain ⟨b', hb, hx, hsh⟩ := ptrB 9 _ rfl rfl o h tm w hs
  refine ⟨_, ?_, hb.symm⟩
  have hcall := run_callFunc_extern (P := Tryz.prog) Tryz.func146 (by kernel_rfl) (by kernel_rfl) (by kernel_rfl) (e := Extern.AbiNoEscape.same) (by kernel_rfl) #[.pointer (some ⟨b', 0, none⟩)] w
  rw [Go.Lib.run_noEscape] at hcall
  have hfv : evl tm (.func 146) = .func (.func 146) #[] #[] := rfl
  simp only [execOp, resolve, hfv]
  simp only [Deferred.ofValue, Sem.run_bind, Sem.run_pure, Result.andThen_ok, invoke, Array.empty_append, Array.append_empty]
  simp only [List.map_toArray, List.map_cons, List.map_nil, hx]
  exact hcall
 refine KW.runV (.e (.r 0)) rfl rfl rfl (fun o h tm w hs => ?_) ?_
 ·obtain ⟨b', hb, hx, hsh⟩ := ptrB 10 _ rfl rfl o h tm w hs
  refine ⟨_, ?_, hb.symm⟩
  simp only [execOp, hx]
  exact qD6 (Go.Lib.run_from_unsafe w ⟨b', 0, none⟩ (by kernel_rfl) (by kernel_rfl) hj hsh (by kernel_rfl))
 refine KW.go qQ0 (.nil _) 100 rfl (by simp) ?_
 exact KW.finN [(0, 0), (1, 1)] rfl rfl rfl (by exact ⟨rfl, rfl, trivial⟩)
theorem checkU_does (n : Nat) (f : Nat -> Nat -> CV) (b : Nat) : DoesF Tryz.prog 128 [.r 0] (buR (.r 0) (.sl n 1 f) b) (.tup []) (buR (.r 0) (.sl n 1 f) b) := by
 refine DoesF.body _ Tryz.func128 rfl rfl rfl rfl ?_
 refine KW.go qQ0 (.nil _) 100 rfl (by simp) ?_
 refine KW.runV (sB false) rfl rfl rfl (fun o h tm w hs => ?_) ?_
 ·obtain ⟨b', hb, hx, hsh⟩ := ptrB 5 _ rfl rfl o h tm w hs
  exact ⟨_, run_exec_eqnil (p := some ⟨b', 0, none⟩) rfl hx (by kernel_rfl), rfl, rfl⟩
 refine KW.goIf qQ0 (.nil _) 100 rfl (by simp) rfl trivial (fun h => by cases h) fun h => ?_
 refine KW.go qQ0 (.nil _) 100 rfl (by simp) ?_
 obtain ⟨j, hj, hjs⟩ := infoB
 refine KW.runV (sB false) rfl rfl rfl (fun o h tm w hs => ?_) ?_
 ·obtain ⟨b', hb, hx, hsh⟩ := ptrB 17 _ rfl rfl o h tm w hs
  obtain ⟨b2, hb2, hx2, _⟩ := ptrB 18 _ rfl rfl o h tm w hs
  rw [hb] at hb2
  cases hb2
  exact ⟨_, run_exec_neqsame rfl hx hx2 (by kernel_rfl) hj, rfl, rfl⟩
 refine KW.goIf qQ0 (.nil _) 100 rfl (by simp) rfl trivial (fun h => by cases h) fun h => ?_
 refine KW.go qQ0 (.nil _) 100 rfl (by simp) ?_
 exact KW.finN [(0, 0), (1, 1)] rfl rfl rfl (by exact ⟨rfl, rfl, trivial⟩)
end
end Go.Proofs.YtgoilpfpmbjegaaGreatDoor.Tr
end
section
attribute [local instance] Go.Sy.drwNo
namespace Go.Proofs.YtgoilpfpmbjegaaGreatDoor.Tr
open Go.Sy Go.Pu Go.Sort Go.Lib Go.Shelf
def powVs : List Value := Lib.pow10Tab.map fun z => Value.int .u64 z
def gloP (i T : Nat) : Nat × Res := (i, .glo 2 T powVs)
theorem itoa_does (n : Int) (hn : inK .i64 n) (T : Nat) : DoesF Tryz.prog 105 [iV n] [gloP 0 T] (.e (strV (strL (Lib.itoa n)))) [] := by
 intro o h args w hs
 have h1 : args.getD 0 undef = .int .i64 n := (show RepV o w (.lit (.int .i64 n)) _ from hs.slot 0 (sI n) rfl).1
 have hargs := args1 (by exact hs.size) h1
 subst hargs
 have hg : o 2 = .sh /\ w.heap[2]? = some (.cells powVs.toArray T (0, 0)) := hs.res 0 (.glo 2 T powVs) rfl
 have hT : Lib.TabIs Tryz.prog w "internal/strconv.uint64pow10" .u64 Lib.pow10Tab := by
  unfold Lib.TabIs World.var?
  rw [show Tryz.prog.globalNamed "internal/strconv.uint64pow10" = some 2 by kernel_rfl]
  simp only [Option.bind_some, hg.2]; rfl
 simp only [inK] at hn
 refine (Any.strconv_Itoa layItoaT n (by omega) (by omega) w hT).mono ?_
 rintro e w' ⟨rfl, k, os, rfl⟩
 have hb := below_grow w.heap.size w (Nat.le_refl _) k os
 refine ⟨_, o, h, rfl, ⟨rfl, fun b => ⟨fun i hk => Nat.lt_of_lt_of_le ((hs.tags b).1 i hk) hb.size, fun hk => Nat.lt_of_lt_of_le ((hs.tags b).2 hk) hb.size⟩, fun s x hl => ?_, fun i r hl => by simp [lk] at hl⟩, below_ext hb⟩
 rw [qQ3] at hl
 split at hl
 ·rename_i e; subst e; cases hl; exact ⟨rfl, rfl⟩
 ·simp [lk] at hl
abbrev nilP : EV := .c (.lit (.pointer none))
theorem wsF_does (bs l : List UInt8) (b : Nat) (hlen : bs.length + l.length ≤ 140737488355328) : DoesF Tryz.prog 104 [.r 0, strV (strL l)] (buR nilP (bytesC bs) b) (.tup [iV l.length, .c (.lit .nilIface)]) (buR (.r 0) (bytesC (bs ++ l)) b) := by
 refine DoesF.body _ Tryz.func104 rfl rfl rfl rfl ?_
 refine KW.go qQ0 U7_ok 100 rfl (by simp) ?_
 refine KW.call0 (checkF_does bs.length (fun e _ => CV.lit (Value.int IntKind.u8 ((bs.getD e 0).toNat : Int))) b) (qQ9 Tryz.func128 rfl rfl) [(0, 0), (1, 1)] [(0, 0), (1, 201)] [] (.inl rfl) rfl rfl rfl rfl rfl trivial
  ⟨⟨_, _, rfl, trivial, (show Mt _ _ _ (EV.ren [(0, 0), (1, 1)] (.r 0)) (.r 0) from .same)⟩, trivial⟩ rfl ⟨rfl, rfl, trivial⟩ rfl ⟨.inr ⟨rfl, .inr ⟨_, _, _, _, b, rfl, rfl⟩⟩, .inl rfl, trivial⟩ rfl rfl (.inl rfl) ?_
 refine KW.go qQ0 U7_ok 100 rfl (by simp) ?_
 refine KW.appS (bs := bs) (s := strL l) qQ0 rfl rfl rfl rfl rfl rfl rfl rfl rfl rfl rfl rfl trivial rfl rfl trivial (by rw [strL_size]; exact hlen) ?_
 refine KW.goRetR qQ0 U7_ok 100 rfl [(0, 0), (1, 14)] rfl rfl ?_ (by simp) (by exact ⟨rfl, by rw [strL_data]; rfl, trivial⟩)
 rw [strL_size]; rfl
theorem wsU_does (bs l : List UInt8) (b : Nat) (hlen : bs.length + l.length ≤ 140737488355328) : DoesF Tryz.prog 104 [.r 0, strV (strL l)] (buR (.r 0) (bytesC bs) b) (.tup [iV l.length, .c (.lit .nilIface)]) (buR (.r 0) (bytesC (bs ++ l)) b) := by
 refine DoesF.body _ Tryz.func104 rfl rfl rfl rfl ?_
 refine KW.go qQ0 U7_ok 100 rfl (by simp) ?_
 refine KW.call0 (checkU_does bs.length (fun e _ => CV.lit (Value.int IntKind.u8 ((bs.getD e 0).toNat : Int))) b) (qQ9 Tryz.func128 rfl rfl) [(0, 0), (1, 1)] [(0, 0), (1, 201)] [] (.inl rfl) rfl rfl rfl rfl rfl trivial
  ⟨⟨_, _, rfl, trivial, (show Mt _ _ _ (EV.ren [(0, 0), (1, 1)] (.r 0)) (.r 0) from .same)⟩, trivial⟩ rfl ⟨rfl, rfl, trivial⟩ rfl ⟨.inr ⟨rfl, .inr ⟨_, _, _, _, b, rfl, rfl⟩⟩, .inl rfl, trivial⟩ rfl rfl (.inl rfl) ?_
 refine KW.go qQ0 U7_ok 100 rfl (by simp) ?_
 refine KW.appS (bs := bs) (s := strL l) qQ0 rfl rfl rfl rfl rfl rfl rfl rfl rfl rfl rfl rfl trivial rfl rfl trivial (by rw [strL_size]; exact hlen) ?_
 refine KW.goRetR qQ0 U7_ok 100 rfl [(0, 0), (1, 14)] rfl rfl ?_ (by simp) (by exact ⟨rfl, by rw [strL_data]; rfl, trivial⟩)
 rw [strL_size]; rfl
def buG (p : EV) (X : CV) (b T : Nat) : List (Nat × Res) := [(0, .box 116 [p, .r 1] (some b)), (1, .own 5 X), gloP 2 T]
set_option maxHeartbeats 1600000 in
theorem writeU_does (T : Nat) (t : Tr) : gT t -> t.In -> ∀ (bs : List UInt8) (b : Nat), (bs.length : Int) + 30 * cntN t ≤ 1000000 -> DoesF Tryz.prog 68 [.r 0, trV t] (buG (.r 0) (bytesC bs) b T) (.tup []) (buR (.r 0) (bytesC (bs ++ showT t)) b) := by
 induction t using Tr.ind with
 | h t ih =>
   have ihU : ∀ t' : Tr, (∃ i, i < t.n /\ t' = t.k i) -> gT t' -> t'.In -> ∀ (bs : List UInt8) (b : Nat), (bs.length : Int) + 30 * cntN t' ≤ 1000000 -> DoesF Tryz.prog 68 [.r 0, trV t'] (buG (.r 0) (bytesC bs) b T) (.tup []) (buR (.r 0) (bytesC (bs ++ showT t')) b) := fun t' h => by
    obtain ⟨i, hi, rfl⟩ := h
    exact ih i hi
   intro hg hin bs b hlen
   obtain ⟨iv, ir, ik⟩ := (Tr.in_iff t).1 hin
   simp only [inK] at iv ir
   refine DoesF.body _ Tryz.func68 rfl rfl rfl rfl ?_
   refine KW.open 1 t rfl ?_
   refine KW.goIf qQ0 U7_ok 100 rfl (by simp) rfl trivial (fun h => ?_) fun h => ?_
   ·have h0 : t.n = 0 := by simpa using h
    have hl := itoa_size (n := t.r) (by omega) (by omega)
    have pc := qC6 t
    rw [showT_eq, if_neg (by omega)]
    refine KW.go qQ0 U7_ok 100 rfl (by simp) ?_
    refine KW.dupG 2 300 rfl ?_
    refine KW.call0 (itoa_does t.r (by simp only [inK]; omega) T) (qQ9 Tryz.func105 rfl rfl) [(0, 300)] [] [] (.inl rfl) rfl rfl rfl rfl rfl trivial ⟨⟨_, _, rfl, trivial, .conv (CVEq.refl _)⟩, trivial⟩ rfl ⟨rfl, trivial⟩ rfl trivial rfl rfl (.inl rfl) ?_
    refine KW.go qQ0 U7_ok 100 rfl (by simp) ?_
    refine KW.call0 (wsU_does bs (Lib.itoa t.r) b (by omega)) (qQ9 Tryz.func104 rfl rfl) [(0, 0), (1, 1)] [(0, 0), (1, 201)] [] (.inl rfl) rfl rfl rfl rfl rfl trivial
     ⟨⟨_, _, rfl, trivial, (show Mt _ _ _ (EV.ren [(0, 0), (1, 1)] (.r 0)) (.r 0) from .same)⟩, ⟨_, _, rfl, trivial, .conv (CVEq.refl _)⟩, trivial⟩ rfl ⟨rfl, rfl, trivial⟩ rfl ⟨.inr ⟨rfl, .inr ⟨_, _, _, _, b, rfl, rfl⟩⟩, .inl rfl, trivial⟩ rfl rfl (.inl rfl) ?_
    exact KW.goRetR qQ0 U7_ok 100 rfl [(0, 0), (1, 201)] rfl rfl rfl (by simp) (by exact ⟨rfl, rfl, trivial⟩)
   ·have h0 : t.n ≠ 0 := by simpa using h
    obtain ⟨h2, _, _, _, g0, g1⟩ := gT_kids hg h0
    have hl := itoa_size (n := t.v) (by omega) (by omega)
    have p0 := qC6 (t.k 0)
    have p1 := qC6 (t.k 1)
    have s0 := showT_size (t.k 0) g0 (ik 0 (by omega))
    have s1 := showT_size (t.k 1) g1 (ik 1 (by omega))
    have cc := cntN_eq t
    rw [if_pos h2] at cc
    rw [showT_eq, if_pos h2]
    refine KW.go qQ0 U7_ok 100 rfl (by simp) ?_
    refine KW.dupG 2 300 rfl ?_
    refine KW.call0 (itoa_does t.v (by simp only [inK]; omega) T) (qQ9 Tryz.func105 rfl rfl) [(0, 300)] [] [] (.inl rfl) rfl rfl rfl rfl rfl trivial ⟨⟨_, _, rfl, trivial, .conv (CVEq.refl _)⟩, trivial⟩ rfl ⟨rfl, trivial⟩ rfl trivial rfl rfl (.inl rfl) ?_
    refine KW.go qQ0 U7_ok 100 rfl (by simp [show (⟨#[91]⟩ : ByteArray).size = 1 from rfl, show (⟨#[32]⟩ : ByteArray).size = 1 from rfl]; omega) ?_
    refine KW.call0 (wsU_does bs (91 :: (Lib.itoa t.v ++ [32])) b (by simp only [List.length_append, List.length_cons, List.length_nil]; omega)) (qQ9 Tryz.func104 rfl rfl) [(0, 0), (1, 1)] [(0, 0), (1, 201)] [] (.inl rfl) rfl rfl rfl rfl rfl trivial
     ⟨⟨_, _, rfl, trivial, (show Mt _ _ _ (EV.ren [(0, 0), (1, 1)] (.r 0)) (.r 0) from .same)⟩, ⟨_, _, rfl, trivial, .conv (show Value.string ((strL [91] ++ strL (Lib.itoa t.v)) ++ strL [32]) = Value.string _ by rw [strL_append, strL_append]; simp)⟩, trivial⟩ rfl ⟨rfl, rfl, trivial⟩ rfl ⟨.inr ⟨rfl, .inr ⟨_, _, _, _, b, rfl, rfl⟩⟩, .inl rfl, trivial⟩ rfl rfl (.inl rfl) ?_
    refine KW.go qQ0 U7_ok 100 rfl (by simp; omega) ?_
    refine KW.dupG 2 300 rfl ?_
    refine KW.call0 (ihU (t.k 0) ⟨0, by omega, rfl⟩ g0 (ik 0 (by omega)) (bs ++ (91 :: (Lib.itoa t.v ++ [32]))) b (by simp only [List.length_append, List.length_cons, List.length_nil, Int.natCast_add, Int.natCast_one]; omega)) (qQ9 Tryz.func68 rfl rfl) [(0, 0), (1, 201), (2, 300)] [(0, 0), (1, 202)] [] (.inl rfl) rfl rfl rfl rfl rfl trivial
     ⟨⟨_, _, rfl, trivial, (show Mt _ _ _ (EV.ren [(0, 0), (1, 201), (2, 300)] (.r 0)) (.r 0) from .same)⟩, ⟨_, _, rfl, trivial, (show Mt _ _ _ (EV.ren [(0, 0), (1, 201), (2, 300)] (trV (t.k 0))) (trV (t.k 0)) from .same)⟩, trivial⟩ rfl ⟨rfl, rfl, rfl, trivial⟩ rfl ⟨.inr ⟨rfl, .inr ⟨_, _, _, _, b, rfl, rfl⟩⟩, .inl rfl, trivial⟩ rfl rfl (.inl rfl) ?_
    refine KW.go qQ0 U7_ok 100 rfl (by simp) ?_
    refine KW.call0 (wsU_does ((bs ++ (91 :: (Lib.itoa t.v ++ [32]))) ++ showT (t.k 0)) [32] b (by simp only [List.length_append, List.length_cons, List.length_nil]; omega)) (qQ9 Tryz.func104 rfl rfl) [(0, 0), (1, 202)] [(0, 0), (1, 203)] [] (.inl rfl) rfl rfl rfl rfl rfl trivial
     ⟨⟨_, _, rfl, trivial, (show Mt _ _ _ (EV.ren [(0, 0), (1, 202)] (.r 0)) (.r 0) from .same)⟩, ⟨_, _, rfl, trivial, .conv (CVEq.refl _)⟩, trivial⟩ rfl ⟨rfl, rfl, trivial⟩ rfl ⟨.inr ⟨rfl, .inr ⟨_, _, _, _, b, rfl, rfl⟩⟩, .inl rfl, trivial⟩ rfl rfl (.inl rfl) ?_
    refine KW.go qQ0 U7_ok 100 rfl (by simp; omega) ?_
    refine KW.dupG 2 300 rfl ?_
    refine KW.call0 (ihU (t.k 1) ⟨1, by omega, rfl⟩ g1 (ik 1 (by omega)) (((bs ++ (91 :: (Lib.itoa t.v ++ [32]))) ++ showT (t.k 0)) ++ [32]) b (by simp only [List.length_append, List.length_cons, List.length_nil, Int.natCast_add, Int.natCast_one]; omega)) (qQ9 Tryz.func68 rfl rfl) [(0, 0), (1, 203), (2, 300)] [(0, 0), (1, 204)] [] (.inl rfl) rfl rfl rfl rfl rfl trivial
     ⟨⟨_, _, rfl, trivial, (show Mt _ _ _ (EV.ren [(0, 0), (1, 203), (2, 300)] (.r 0)) (.r 0) from .same)⟩, ⟨_, _, rfl, trivial, (show Mt _ _ _ (EV.ren [(0, 0), (1, 203), (2, 300)] (trV (t.k 1))) (trV (t.k 1)) from .same)⟩, trivial⟩ rfl ⟨rfl, rfl, rfl, trivial⟩ rfl ⟨.inr ⟨rfl, .inr ⟨_, _, _, _, b, rfl, rfl⟩⟩, .inl rfl, trivial⟩ rfl rfl (.inl rfl) ?_
    refine KW.go qQ0 U7_ok 100 rfl (by simp) ?_
    refine KW.call0 (wsU_does ((((bs ++ (91 :: (Lib.itoa t.v ++ [32]))) ++ showT (t.k 0)) ++ [32]) ++ showT (t.k 1)) [93] b (by simp only [List.length_append, List.length_cons, List.length_nil]; omega)) (qQ9 Tryz.func104 rfl rfl) [(0, 0), (1, 204)] [(0, 0), (1, 205)] [] (.inl rfl) rfl rfl rfl rfl rfl trivial
     ⟨⟨_, _, rfl, trivial, (show Mt _ _ _ (EV.ren [(0, 0), (1, 204)] (.r 0)) (.r 0) from .same)⟩, ⟨_, _, rfl, trivial, .conv (CVEq.refl _)⟩, trivial⟩ rfl ⟨rfl, rfl, trivial⟩ rfl ⟨.inr ⟨rfl, .inr ⟨_, _, _, _, b, rfl, rfl⟩⟩, .inl rfl, trivial⟩ rfl rfl (.inl rfl) ?_
    refine KW.go qQ0 U7_ok 100 rfl (by simp) ?_
    exact KW.finN [(0, 0), (1, 205)] rfl rfl rfl (by exact ⟨rfl, by simp only [List.append_assoc, List.cons_append, List.nil_append]; rfl, trivial⟩)
set_option maxHeartbeats 1600000 in
theorem writeF_does (T : Nat) (t : Tr) : gT t -> t.In -> ∀ (bs : List UInt8) (b : Nat), (bs.length : Int) + 30 * cntN t ≤ 1000000 -> DoesF Tryz.prog 68 [.r 0, trV t] (buG nilP (bytesC bs) b T) (.tup []) (buR (.r 0) (bytesC (bs ++ showT t)) b) := by
 intro hg hin bs b hlen
 obtain ⟨iv, ir, ik⟩ := (Tr.in_iff t).1 hin
 simp only [inK] at iv ir
 refine DoesF.body _ Tryz.func68 rfl rfl rfl rfl ?_
 refine KW.open 1 t rfl ?_
 refine KW.goIf qQ0 U7_ok 100 rfl (by simp) rfl trivial (fun h => ?_) fun h => ?_
 ·have h0 : t.n = 0 := by simpa using h
  have hl := itoa_size (n := t.r) (by omega) (by omega)
  have pc := qC6 t
  rw [showT_eq, if_neg (by omega)]
  refine KW.go qQ0 U7_ok 100 rfl (by simp) ?_
  refine KW.dupG 2 300 rfl ?_
  refine KW.call0 (itoa_does t.r (by simp only [inK]; omega) T) (qQ9 Tryz.func105 rfl rfl) [(0, 300)] [] [] (.inl rfl) rfl rfl rfl rfl rfl trivial ⟨⟨_, _, rfl, trivial, .conv (CVEq.refl _)⟩, trivial⟩ rfl ⟨rfl, trivial⟩ rfl trivial rfl rfl (.inl rfl) ?_
  refine KW.go qQ0 U7_ok 100 rfl (by simp) ?_
  refine KW.call0 (wsF_does bs (Lib.itoa t.r) b (by omega)) (qQ9 Tryz.func104 rfl rfl) [(0, 0), (1, 1)] [(0, 0), (1, 201)] [] (.inl rfl) rfl rfl rfl rfl rfl trivial
   ⟨⟨_, _, rfl, trivial, (show Mt _ _ _ (EV.ren [(0, 0), (1, 1)] (.r 0)) (.r 0) from .same)⟩, ⟨_, _, rfl, trivial, .conv (CVEq.refl _)⟩, trivial⟩ rfl ⟨rfl, rfl, trivial⟩ rfl ⟨.inr ⟨rfl, .inr ⟨_, _, _, _, b, rfl, rfl⟩⟩, .inl rfl, trivial⟩ rfl rfl (.inl rfl) ?_
  exact KW.goRetR qQ0 U7_ok 100 rfl [(0, 0), (1, 201)] rfl rfl rfl (by simp) (by exact ⟨rfl, rfl, trivial⟩)
 ·have h0 : t.n ≠ 0 := by simpa using h
  obtain ⟨h2, _, _, _, g0, g1⟩ := gT_kids hg h0
  have hl := itoa_size (n := t.v) (by omega) (by omega)
  have p0 := qC6 (t.k 0)
  have p1 := qC6 (t.k 1)
  have s0 := showT_size (t.k 0) g0 (ik 0 (by omega))
  have s1 := showT_size (t.k 1) g1 (ik 1 (by omega))
  have cc := cntN_eq t
  rw [if_pos h2] at cc
  rw [showT_eq, if_pos h2]
  refine KW.go qQ0 U7_ok 100 rfl (by simp) ?_
  refine KW.dupG 2 300 rfl ?_
  refine KW.call0 (itoa_does t.v (by simp only [inK]; omega) T) (qQ9 Tryz.func105 rfl rfl) [(0, 300)] [] [] (.inl rfl) rfl rfl rfl rfl rfl trivial ⟨⟨_, _, rfl, trivial, .conv (CVEq.refl _)⟩, trivial⟩ rfl ⟨rfl, trivial⟩ rfl trivial rfl rfl (.inl rfl) ?_
  refine KW.go qQ0 U7_ok 100 rfl (by simp [show (⟨#[91]⟩ : ByteArray).size = 1 from rfl, show (⟨#[32]⟩ : ByteArray).size = 1 from rfl]; omega) ?_
  refine KW.call0 (wsF_does bs (91 :: (Lib.itoa t.v ++ [32])) b (by simp only [List.length_append, List.length_cons, List.length_nil]; omega)) (qQ9 Tryz.func104 rfl rfl) [(0, 0), (1, 1)] [(0, 0), (1, 201)] [] (.inl rfl) rfl rfl rfl rfl rfl trivial
   ⟨⟨_, _, rfl, trivial, (show Mt _ _ _ (EV.ren [(0, 0), (1, 1)] (.r 0)) (.r 0) from .same)⟩, ⟨_, _, rfl, trivial, .conv (show Value.string ((strL [91] ++ strL (Lib.itoa t.v)) ++ strL [32]) = Value.string _ by rw [strL_append, strL_append]; simp)⟩, trivial⟩ rfl ⟨rfl, rfl, trivial⟩ rfl ⟨.inr ⟨rfl, .inr ⟨_, _, _, _, b, rfl, rfl⟩⟩, .inl rfl, trivial⟩ rfl rfl (.inl rfl) ?_
  refine KW.go qQ0 U7_ok 100 rfl (by simp; omega) ?_
  refine KW.dupG 2 300 rfl ?_
  refine KW.call0 (writeU_does T (t.k 0) g0 (ik 0 (by omega)) (bs ++ (91 :: (Lib.itoa t.v ++ [32]))) b (by simp only [List.length_append, List.length_cons, List.length_nil, Int.natCast_add, Int.natCast_one]; omega)) (qQ9 Tryz.func68 rfl rfl) [(0, 0), (1, 201), (2, 300)] [(0, 0), (1, 202)] [] (.inl rfl) rfl rfl rfl rfl rfl trivial
   ⟨⟨_, _, rfl, trivial, (show Mt _ _ _ (EV.ren [(0, 0), (1, 201), (2, 300)] (.r 0)) (.r 0) from .same)⟩, ⟨_, _, rfl, trivial, (show Mt _ _ _ (EV.ren [(0, 0), (1, 201), (2, 300)] (trV (t.k 0))) (trV (t.k 0)) from .same)⟩, trivial⟩ rfl ⟨rfl, rfl, rfl, trivial⟩ rfl ⟨.inr ⟨rfl, .inr ⟨_, _, _, _, b, rfl, rfl⟩⟩, .inl rfl, trivial⟩ rfl rfl (.inl rfl) ?_
  refine KW.go qQ0 U7_ok 100 rfl (by simp) ?_
  refine KW.call0 (wsU_does ((bs ++ (91 :: (Lib.itoa t.v ++ [32]))) ++ showT (t.k 0)) [32] b (by simp only [List.length_append, List.length_cons, List.length_nil]; omega)) (qQ9 Tryz.func104 rfl rfl) [(0, 0), (1, 202)] [(0, 0), (1, 203)] [] (.inl rfl) rfl rfl rfl rfl rfl trivial
   ⟨⟨_, _, rfl, trivial, (show Mt _ _ _ (EV.ren [(0, 0), (1, 202)] (.r 0)) (.r 0) from .same)⟩, ⟨_, _, rfl, trivial, .conv (CVEq.refl _)⟩, trivial⟩ rfl ⟨rfl, rfl, trivial⟩ rfl ⟨.inr ⟨rfl, .inr ⟨_, _, _, _, b, rfl, rfl⟩⟩, .inl rfl, trivial⟩ rfl rfl (.inl rfl) ?_
  refine KW.go qQ0 U7_ok 100 rfl (by simp; omega) ?_
  refine KW.dupG 2 300 rfl ?_
  refine KW.call0 (writeU_does T (t.k 1) g1 (ik 1 (by omega)) (((bs ++ (91 :: (Lib.itoa t.v ++ [32]))) ++ showT (t.k 0)) ++ [32]) b (by simp only [List.length_append, List.length_cons, List.length_nil, Int.natCast_add, Int.natCast_one]; omega)) (qQ9 Tryz.func68 rfl rfl) [(0, 0), (1, 203), (2, 300)] [(0, 0), (1, 204)] [] (.inl rfl) rfl rfl rfl rfl rfl trivial
   ⟨⟨_, _, rfl, trivial, (show Mt _ _ _ (EV.ren [(0, 0), (1, 203), (2, 300)] (.r 0)) (.r 0) from .same)⟩, ⟨_, _, rfl, trivial, (show Mt _ _ _ (EV.ren [(0, 0), (1, 203), (2, 300)] (trV (t.k 1))) (trV (t.k 1)) from .same)⟩, trivial⟩ rfl ⟨rfl, rfl, rfl, trivial⟩ rfl ⟨.inr ⟨rfl, .inr ⟨_, _, _, _, b, rfl, rfl⟩⟩, .inl rfl, trivial⟩ rfl rfl (.inl rfl) ?_
  refine KW.go qQ0 U7_ok 100 rfl (by simp) ?_
  refine KW.call0 (wsU_does ((((bs ++ (91 :: (Lib.itoa t.v ++ [32]))) ++ showT (t.k 0)) ++ [32]) ++ showT (t.k 1)) [93] b (by simp only [List.length_append, List.length_cons, List.length_nil]; omega)) (qQ9 Tryz.func104 rfl rfl) [(0, 0), (1, 204)] [(0, 0), (1, 205)] [] (.inl rfl) rfl rfl rfl rfl rfl trivial
   ⟨⟨_, _, rfl, trivial, (show Mt _ _ _ (EV.ren [(0, 0), (1, 204)] (.r 0)) (.r 0) from .same)⟩, ⟨_, _, rfl, trivial, .conv (CVEq.refl _)⟩, trivial⟩ rfl ⟨rfl, rfl, trivial⟩ rfl ⟨.inr ⟨rfl, .inr ⟨_, _, _, _, b, rfl, rfl⟩⟩, .inl rfl, trivial⟩ rfl rfl (.inl rfl) ?_
  refine KW.go qQ0 U7_ok 100 rfl (by simp) ?_
  exact KW.finN [(0, 0), (1, 205)] rfl rfl rfl (by exact ⟨rfl, by simp only [List.append_assoc, List.cons_append, List.nil_append]; rfl, trivial⟩)
def textL (t : Tr) (vars : Int) : List UInt8 := if splE t vars = 0 then showT t else []
theorem text_does (t : Tr) (hin : t.In) (vars : Int) (T : Nat) : DoesF Tryz.prog 30 [trV t, iV vars] [gloP 0 T] (.tup [strV (strL (textL t vars)), eV (splE t vars)]) [] := by
 refine DoesF.body _ Tryz.func30 rfl rfl rfl rfl ?_
 refine KW.goIf qQ0 U7_ok 100 rfl (by simp) rfl trivial (fun h => ?_) fun h => ?_
 ·have h0 : splE t vars ≠ 0 := by simpa using h
  refine KW.goRet qQ0 U7_ok 100 rfl rfl ?_ (by simp) trivial
  simp only [textL, if_neg h0, qZ7]; rfl
 ·have h0 : splE t vars = 0 := by simpa using h
  obtain ⟨hg, hc⟩ := splE_g h0
  have hl := showT_len t
  have e : textL t vars = showT t := by rw [textL, if_pos h0]
  rw [e, h0]
  refine KW.go qQ0 U7_ok 100 rfl (by simp) ?_
  refine KW.name 7 rfl fun b => ?_
  refine KW.nilB 7 1 200 5 (bytesC []) rfl rfl rfl rfl rfl ?_
  refine KW.call0 (writeF_does T t hg hin [] b (by simp only [List.length_nil]; omega)) (qQ9 Tryz.func68 rfl rfl) [(0, 7), (1, 200), (2, 0)] [(0, 7), (1, 201)] [] (.inl rfl) rfl rfl rfl rfl rfl trivial
   ⟨⟨_, _, rfl, trivial, (show Mt _ _ _ (EV.ren [(0, 7), (1, 200), (2, 0)] (.r 0)) (.r 0) from .same)⟩, ⟨_, _, rfl, trivial, (show Mt _ _ _ (EV.ren [(0, 7), (1, 200), (2, 0)] (trV t)) (trV t) from .same)⟩, trivial⟩ rfl ⟨rfl, rfl, rfl, trivial⟩ rfl ⟨.inr ⟨rfl, .inr ⟨_, _, _, _, b, rfl, rfl⟩⟩, .inl rfl, trivial⟩ rfl rfl (.inl rfl) ?_
  rw [List.nil_append]
  refine KW.go qQ0 U7_ok 100 rfl (by simp) ?_
  refine KW.call0 (string_does layString extraString rfl rfl rfl (bs := showT t) (fun e => by rw [e] at hl; exact absurd hl (by decide)) (.r 0) (some b)) (qQ9 Tryz.func69 rfl rfl) [(0, 7), (1, 201)] [] [] (.inl rfl) rfl rfl rfl rfl rfl trivial
   ⟨⟨_, _, rfl, trivial, (show Mt _ _ _ (EV.ren [(0, 7), (1, 201)] (.r 0)) (.r 0) from .same)⟩, trivial⟩ rfl ⟨rfl, rfl, trivial⟩ rfl trivial rfl rfl (.inl rfl) ?_
  exact KW.goRet qQ0 U7_ok 100 rfl rfl rfl (by simp) trivial
end Go.Proofs.YtgoilpfpmbjegaaGreatDoor.Tr
end
section
attribute [local instance] Go.Sy.drwNo
namespace Go.Proofs.YtgoilpfpmbjegaaGreatDoor
open Go.Sy Go.Pu Go.Proofs.YtgoilpfpmbjegaaGreatDoor.Tr
def R8 : Fns := (29, f0 (.tup [.ag (qX5 ex36), .ag (qV3 ex57)]) True) ::
 R7
theorem R8_ok : FnsOk Tryz.prog R8 := .cons (R7_ok) Tryz.func29 rfl rfl (f0_ok fun _ => example57_does)
theorem lf_in {r : Int} (h : inK .i64 r) : (Tr.lf r).In := (Tr.in_iff _).2 ⟨by simp [inK], h, fun i hi => absurd hi (Nat.not_lt_zero _)⟩
theorem ex57_text : splE (Tr.lf (-1)) 3 = 0 /\ textL (Tr.lf (-1)) 3 = [45, 49] := by
 have e : splE (Tr.lf (-1)) 3 = 0 := by decide +kernel
 refine ⟨e, ?_⟩
 rw [textL, if_pos e]
 decide +kernel
def rs57 (T T2 : Nat) : List (Nat × Res) := [gloP 200 T, (201, .glo 1 T2 tabVs)]
set_option maxHeartbeats 3200000 in
theorem awake57_does (T T2 : Nat) : DoesF Tryz.prog 10 [] (rs57 T T2) (sB true) [] := by
 refine DoesF.body _ Tryz.func10 rfl rfl rfl rfl ?_
 refine KW.go qQ0 R8_ok 100 rfl ?_ ?_
 ·simp only [qQ1, qQ5, qQ2, qQ8, true_and, and_true, qQ7, qX2, qX0]
  simp [ex36_in]
 simp only [qQ1, qQ2, qX2, qX0, ex57_che, ex57_low.1, ex57_low.2]
 refine KW.dupG 201 300 rfl ?_
 refine KW.call0 (rpmake_does ex36 ex57 ex36_in T2) (qQ9 Tryz.func18 rfl rfl) [(0, 300)] [] [] (.inl rfl) rfl rfl rfl rfl rfl trivial
  ⟨⟨_, _, rfl, trivial, (show Mt _ _ _ (EV.ren [(0, 300)] (.ag (qX5 ex36))) (.ag (qX5 ex36)) from .same)⟩, ⟨_, _, rfl, trivial, (show Mt _ _ _ (EV.ren [(0, 300)] (.ag (qV3 ex57))) (.ag (qV3 ex57)) from .same)⟩, trivial⟩ rfl ⟨rfl, trivial⟩ rfl trivial rfl rfl (.inl rfl) ?_
 rw [ex57_make.1, ex57_make.2]
 refine KW.goIf qQ0 R8_ok 100 rfl (by simp) rfl trivial (fun h => absurd h (by simp)) fun h => ?_
 clear h
 refine KW.go qQ0 R8_ok 100 rfl (by simp) ?_
 refine KW.dupG 200 301 rfl ?_
 refine KW.call0 (Tr.text_does (Tr.lf (-1)) (lf_in (by simp [inK])) 3 T) (qQ9 Tryz.func30 rfl rfl) [(0, 301)] [] [] (.inl rfl) rfl rfl rfl rfl rfl trivial
  ⟨⟨_, _, rfl, trivial, (show Mt _ _ _ (EV.ren [(0, 301)] (trV (Tr.lf (-1)))) (trV (Tr.lf (-1))) from .same)⟩, ⟨_, _, rfl, trivial, .conv (CVEq.refl _)⟩, trivial⟩ rfl ⟨rfl, trivial⟩ rfl trivial rfl rfl (.inl rfl) ?_
 rw [ex57_text.1, ex57_text.2]
 have hR := rmk_ok ex57_make.1
 rw [ex57_make.2] at hR
 have hsm : repSm ⟨3, 5, [1, 6], Tr.lf (-1)⟩ := ⟨lf_in (by simp [inK]), by simp, by unfold rng; simp [inK]⟩
 refine KW.goRet qQ0 R8_ok 200 rfl rfl ?_ ?_ trivial
 ·simp only [SV.ren, EV.ren, qQ1, qQ2, qZ7, qX2, qX0]
  rw [hR.1, hR.2]
  refine congrArg (fun b => SV.e (.c (.lit (.bool b)))) (?_ : _ = true)
  decide +kernel
 ·simp only [qQ1, qQ5, qQ2, qQ8, qZ7, isKs_ks, true_and, and_true, qQ7, qX2, qX0]
  simp +contextual [ex36_in, hsm]
end Go.Proofs.YtgoilpfpmbjegaaGreatDoor
end
section
attribute [local instance] Go.Sy.drwNo
namespace Go.Proofs.YtgoilpfpmbjegaaGreatDoor
open Go.Sy Go.Pu Go.Proofs.YtgoilpfpmbjegaaGreatDoor.Tr
theorem pos_17 {f : FormP} (h : posE f ≠ 0) : posE f = 17 := by
 unfold posE at h ⊢
 split
 ·rfl
 ·rename_i hne; exact absurd (if_neg hne) h
theorem valid_ok {f : FormP} {x : CasP} (h : validF f x = true) : light57F f x rep0 = true /\ casE f x = 0 := by
 rw [validF, Bool.and_eq_true, decide_eq_true_iff] at h
 exact h
end Go.Proofs.YtgoilpfpmbjegaaGreatDoor
end
section
namespace Go.Sy
variable [Drw]
section
variable {P : Program} {lay : Lay} {A A' B : St} {Q : Exit -> St -> Prop} {fns : Fns} {o : Nat -> Tag} {h : Nat -> Value} {tm : Array Value} {w : World}
def stepW (lay : Lay) (fns : Fns) (B : St) (ops : Array Oper) (op : Oper) (kp : Nat) : Option (SV × List (Nat × Res) × Prop) :=
 match stepZ lay fns B ops op kp with
 | some r => some r
 | none => match op.guard, op.op with
   | none, .build T ps => match evBuildH lay B T ps with
     | some (y, φ) => some (y, [], φ)
     | none => none
   | _, _ => none
theorem stepW_shape {B : St} {ops : Array Oper} {op : Oper} {kp : Nat} {y : SV} {rn : List (Nat × Res)} {φ : Prop} {d : Nat} (hd : op.dst = some d) (hc : stepW lay fns B ops op kp = some (y, rn, φ)) : rn = [] ∨ ∃ r, rn = [(d, r)] := by
 unfold stepW at hc
 split at hc
 ·rename_i r hz
  cases hc
  exact stepZ_shape hd hz
 ·split at hc
  ·split at hc
   ·simp only [Option.some.injEq, Prod.mk.injEq] at hc
    exact .inl hc.2.1.symm
   ·cases hc
  ·cases hc
theorem stepW_wp (hl : qJ1 P lay) (hT : FnsOk P fns) {ops : Array Oper} {i : Nat} {op : Oper} (hi : ops[i]? = some op) {kp : Nat} {y : SV} {rn : List (Nat × Res)} {φ : Prop} {d : Nat} (hle : St.sub B A) (hs : Sat o h A tm w) (hd : op.dst = some d) (hlt : Nat.blt d A.n = true)
  (hc : stepW lay fns B ops op kp = some (y, rn, φ)) (hφ : φ) (hfr : rn ≠ [] -> qW9 A d = true) {K : Act -> World -> Prop} {QQ : Exit -> Act -> World -> Prop}
  (hn : ∀ o2 h2 v w1, Sat o2 h2 ⟨A.n, (d, y) :: A.sl, rn ++ A.rs⟩ (tm.setIfInBounds d v) w1 -> Ext o w o2 w1 -> K ⟨tm.setIfInBounds d v, []⟩ w1) : wpOp P ops QQ i K ⟨tm, []⟩ w := by
 unfold stepW at hc
 split at hc
 ·rename_i r hz
  cases hc
  exact stepZ_wp hl hT hi hle hs hd hlt hz hφ hfr hn
 ·split at hc
  ·rename_i T ps hg ho
   split at hc
   ·rename_i y' φ' hb
    simp only [Option.some.injEq, Prod.mk.injEq] at hc
    obtain ⟨rfl, rfl, rfl⟩ := hc
    obtain ⟨v, hr, hv⟩ := evBuildH_ok hl (hs.subX hle) hb hφ
    have hrun : (execOp (evl tm) op).run P w = .ok (.value v) w := by
     simp only [execOp, ho]
     exact qD6 hr
    have hlt' : d < A.n := by simpa [Nat.blt, Nat.succ_le_iff] using hlt
    unfold wpOp
    simp only [hi]
    rw [if_pos (by simp [Region.wanted, hg])]
    left
    unfold Oper.wp
    show op.upon P ⟨tm, []⟩ _ _ ((execOp (evl tm) op).run P w)
    rw [hrun]
    show K ((⟨tm, []⟩ : Act).put op.dst v) w
    have hput : (⟨tm, []⟩ : Act).put op.dst v = ⟨tm.setIfInBounds d v, []⟩ := by simp [Act.put, hd]
    rw [hput]
    refine hn o h v w ⟨?_, hs.tags, fun t x hl => ?_, hs.res⟩ (Ext.refl o w)
    ·simp [hs.size]
    ·simp only at hl
     rw [qQ3] at hl
     split at hl
     ·rename_i e
      subst e
      cases hl
      have : (tm.setIfInBounds d v).getD d undef = v := by
       rw [Array.getD_eq_getD_getElem?, Array.getElem?_setIfInBounds_self]
       simp [hs.size, hlt']
      rw [this]; exact hv
     ·rename_i hne
      have : (tm.setIfInBounds d v).getD t undef = tm.getD t undef := by
       rw [Array.getD_eq_getD_getElem?, Array.getElem?_setIfInBounds_ne hne, <-Array.getD_eq_getD_getElem?]
      rw [this]; exact hs.slot t x hl
   ·cases hc
  ·cases hc
def drawW (lay : Lay) (fns : Fns) (ops : Array Oper) (rs0 rs1 : List (Nat × Res)) (n s i0 c i1 kp : Nat) : List Oper -> Nat -> List (Nat × SV) -> List (Nat × Res) -> List (Nat × Res) -> Prop -> Option (List Ent × List (Nat × Res) × Prop)
 | [], _, _, _, fw, φ => some ([], fw, φ)
 | op :: l, i, sl, acc, fw, φ => match Nat.beq i s with
   | true => match stepS lay ⟨n, qK8 sl (qW8 ops op), pickR acc (qW8 ops op) ++ rs0⟩ i0 op with
     | some (ys, rn, ψ) => match drawW lay fns ops rs0 rs1 n s i0 c i1 kp l (i + 1) (ys ++ sl) acc rn (φ /\ ψ) with
       | some (ps, sp, χ) => some ((ys, []) :: ps, sp, χ)
       | none => none
     | none => none
   | false => match Nat.beq i c with
     | true => match stepS lay ⟨n, qK8 sl (qW8 ops op), pickR acc (qW8 ops op) ++ rs0⟩ i1 op with
       | some ([(d, y)], (_, r1) :: _, ψ) => match drawW lay fns ops rs0 rs1 n s i0 c i1 kp l (i + 1) ((d, y) :: sl) (acc ++ [(d, r1)]) fw (φ /\ ψ) with
         | some (ps, sp, χ) => some (([(d, y)], [(d, r1)]) :: ps, sp, χ)
         | none => none
       | _ => none
     | false => match op.dst with
       | some d => match Nat.blt d n, stepW lay fns ⟨n, qK8 sl (qW8 ops op), bif qJ8 ops s i then rs0 else (bif qJ8 ops i s && Nat.blt s i then fw ++ rs1 else rs1)⟩ ops op kp with
         | true, some (y, rn, ψ) => match drawW lay fns ops rs0 rs1 n s i0 c i1 kp l (i + 1) ((d, y) :: sl) (acc ++ rn) fw (φ /\ ψ) with
           | some (ps, sp, χ) => some (([(d, y)], rn) :: ps, sp, χ)
           | none => none
         | _, _ => none
       | none => none
theorem drawW_spec {ops : Array Oper} {rs0 rs1 : List (Nat × Res)} {n s i0 c i1 kp : Nat} : ∀ {l : List Oper} {k : Nat} {sl : List (Nat × SV)} {acc fw : List (Nat × Res)} {prs : List Ent} {sp : List (Nat × Res)} {φ φ' : Prop}, drawW lay fns ops rs0 rs1 n s i0 c i1 kp l k sl acc fw φ = some (prs, sp, φ') -> φ' -> φ /\ prs.length = l.length /\ (s < k ∨ k + l.length ≤ s -> sp = fw) /\
  ∀ (i : Nat) op, l[i]? = some op -> if k + i = s then ∃ ys ψ, prs[i]? = some (ys, []) /\ stepS lay ⟨n, qK8 (qV1 (prs.take i) ++ sl) (qW8 ops op), pickR (acc ++ memE (prs.take i)) (qW8 ops op) ++ rs0⟩ i0 op = some (ys, sp, ψ) /\ ψ
    else if k + i = c then ∃ d y r1 ψ, prs[i]? = some ([(d, y)], [(d, r1)]) /\ stepS lay ⟨n, qK8 (qV1 (prs.take i) ++ sl) (qW8 ops op), pickR (acc ++ memE (prs.take i)) (qW8 ops op) ++ rs0⟩ i1 op = some ([(d, y)], [(d, r1), (i1, .gone)], ψ) /\ ψ
    else ∃ d y rn ψ, prs[i]? = some ([(d, y)], rn) /\ op.dst = some d /\ Nat.blt d n = true /\ stepW lay fns ⟨n, qK8 (qV1 (prs.take i) ++ sl) (qW8 ops op), bif qJ8 ops s (k + i) then rs0 else (bif qJ8 ops (k + i) s && Nat.blt s (k + i) then sp ++ rs1 else rs1)⟩ ops op kp = some (y, rn, ψ) /\ ψ
 | [], k, sl, acc, fw, prs, sp, φ, φ', h, hφ => by
   simp only [drawW, Option.some.injEq, Prod.mk.injEq] at h
   obtain ⟨rfl, rfl, rfl⟩ := h
   exact ⟨hφ, rfl, fun _ => rfl, by simp⟩
 | op :: l, k, sl, acc, fw, prs, sp, φ, φ', h, hφ => by
   simp only [drawW] at h
   split at h
   ·rename_i hks
    have hks := Nat.eq_of_beq_eq_true hks
    split at h
    ·rename_i ys rn ψ hs
     split at h
     ·rename_i ps sp' χ hrec
      simp only [Option.some.injEq, Prod.mk.injEq] at h
      obtain ⟨rfl, rfl, rfl⟩ := h
      obtain ⟨h1, h2, h3, h4⟩ := drawW_spec hrec hφ
      have e3 : sp' = rn := h3 (.inl (by omega))
      subst e3
      refine ⟨h1.1, by simp [h2], fun hor => absurd hor (by simp only [List.length_cons]; omega), fun i op' hi => ?_⟩
      cases i with
      | zero =>
        simp at hi; subst hi
        rw [if_pos (by omega)]
        exact ⟨ys, ψ, rfl, by simpa [qV1, memE] using hs, h1.2⟩
      | succ i =>
        simp at hi
        have := h4 i op' hi
        rw [show k + (i + 1) = k + 1 + i by omega]
        rw [if_neg (by omega)] at this ⊢
        split
        ·rename_i e
         rw [if_pos e] at this
         obtain ⟨d', y', r1', ψ', g1, g2, g3⟩ := this
         refine ⟨d', y', r1', ψ', by simpa using g1, ?_, g3⟩
         rw [List.take_succ_cons, qV6, memE_cons, List.append_nil]; exact g2
        ·rename_i e
         rw [if_neg e] at this
         obtain ⟨d', y', rn', ψ', g1, g2, g3, g4, g5⟩ := this
         refine ⟨d', y', rn', ψ', by simpa using g1, g2, g3, ?_, g5⟩
         rw [List.take_succ_cons, qV6]; exact g4
     ·cases h
    ·cases h
   ·rename_i hks
    have hks : k ≠ s := fun e => by rw [e] at hks; simp at hks
    split at h
    ·rename_i hkc
     have hkc := Nat.eq_of_beq_eq_true hkc
     split at h
     ·rename_i d y r0 r1 tl ψ hs
      split at h
      ·rename_i ps sp' χ hrec
       simp only [Option.some.injEq, Prod.mk.injEq] at h
       obtain ⟨rfl, rfl, rfl⟩ := h
       obtain ⟨h1, h2, h3, h4⟩ := drawW_spec hrec hφ
       refine ⟨h1.1, by simp [h2], fun hor => h3 (by simp only [List.length_cons] at hor; omega), fun i op' hi => ?_⟩
       cases i with
       | zero =>
         simp at hi; subst hi
         rw [if_neg (by omega), if_pos (by omega)]
         have hs0 := hs
         obtain ⟨_, ⟨d', r1', _, e1, e2, _⟩ | ⟨r1', _, e1, _⟩⟩ := qA9 hs0
         ·cases e1; cases e2
          exact ⟨_, _, r1, ψ, rfl, by simpa [qV1, memE] using hs, h1.2⟩
         ·cases e1
       | succ i =>
         simp at hi
         have := h4 i op' hi
         rw [show k + (i + 1) = k + 1 + i by omega]
         split
         ·rename_i e
          rw [if_pos e] at this
          obtain ⟨ys', ψ', g1, g2, g3⟩ := this
          refine ⟨ys', ψ', by simpa using g1, ?_, g3⟩
          rw [List.take_succ_cons, qV6, memE_cons]; exact g2
         ·rename_i e
          rw [if_neg e] at this
          rw [if_neg (by omega)] at this ⊢
          obtain ⟨d', y', rn', ψ', g1, g2, g3, g4, g5⟩ := this
          refine ⟨d', y', rn', ψ', by simpa using g1, g2, g3, ?_, g5⟩
          rw [List.take_succ_cons, qV6]; exact g4
      ·cases h
     ·cases h
    rename_i hkc
    have hkc : k ≠ c := fun e => by rw [e] at hkc; simp at hkc
    split at h
    ·rename_i d hd
     split at h
     ·rename_i y rn ψ hlt hs
      split at h
      ·rename_i ps sp' χ hrec
       simp only [Option.some.injEq, Prod.mk.injEq] at h
       obtain ⟨rfl, rfl, rfl⟩ := h
       obtain ⟨h1, h2, h3, h4⟩ := drawW_spec hrec hφ
       refine ⟨h1.1, by simp [h2], fun hor => h3 (by simp only [List.length_cons] at hor; omega), fun i op' hi => ?_⟩
       cases i with
       | zero =>
         simp at hi; subst hi
         rw [if_neg (by omega), if_neg (by omega)]
         refine ⟨d, y, rn, ψ, by simp, hd, hlt, ?_, h1.2⟩
         have e5 : (bif qJ8 ops k s && Nat.blt s k then fw ++ rs1 else rs1) = (bif qJ8 ops k s && Nat.blt s k then sp' ++ rs1 else rs1) := by
          cases hb : Nat.blt s k with
          | false => simp
          | true => rw [h3 (.inl (by have : s < k := by simpa [Nat.blt, Nat.succ_le_iff] using hb
                                     omega))]
         rw [e5] at hs
         simpa [qV1] using hs
       | succ i =>
         simp at hi
         have := h4 i op' hi
         rw [show k + (i + 1) = k + 1 + i by omega]
         split
         ·rename_i e
          rw [if_pos e] at this
          obtain ⟨ys', ψ', g1, g2, g3⟩ := this
          refine ⟨ys', ψ', by simpa using g1, ?_, g3⟩
          rw [List.take_succ_cons, qV6, memE_cons]; exact g2
         ·rename_i e
          rw [if_neg e] at this
          split
          ·rename_i e2
           rw [if_pos e2] at this
           obtain ⟨d', y', r1', ψ', g1, g2, g3⟩ := this
           refine ⟨d', y', r1', ψ', by simpa using g1, ?_, g3⟩
           rw [List.take_succ_cons, qV6, memE_cons]; exact g2
          ·rename_i e2
           rw [if_neg e2] at this
           obtain ⟨d', y', rn', ψ', g1, g2, g3, g4, g5⟩ := this
           refine ⟨d', y', rn', ψ', by simpa using g1, g2, g3, ?_, g5⟩
           rw [List.take_succ_cons, qV6]; exact g4
      ·cases h
     ·cases h
    ·cases h
def specB (ops : Array Oper) (rs : List (Nat × Res)) (n s i0 c i1 : Nat) : Bool :=
 (match lk rs i1 with | some _ => false | none => true) && (layBefore ops c i1 n && ((match ops[s]? with | some op => !memN i1 (qW8 ops op) | none => true) && (!Nat.beq c s && ((Nat.ble n c || qJ8 ops s c) && !Nat.beq i0 i1))))
theorem specB_ok {ops : Array Oper} {rs : List (Nat × Res)} {n s i0 c i1 : Nat} (h : specB ops rs n s i0 c i1 = true) : lk rs i1 = none /\ layBefore ops c i1 n = true /\ (∀ op, ops[s]? = some op -> memN i1 (qW8 ops op) = false) /\ (c ≠ s /\ (c < n -> qJ8 ops s c = true)) /\ i0 ≠ i1 := by
 simp only [specB, Bool.and_eq_true, Bool.or_eq_true, Bool.not_eq_true'] at h
 obtain ⟨h1, h2, h3, h4, h5, h6⟩ := h
 refine ⟨?_, h2, fun op ho => ?_, ⟨fun e => ?_, fun hlt => ?_⟩, fun e => ?_⟩
 ·cases hl : lk rs i1 with
  | none => rfl
  | some r => rw [hl] at h1; cases h1
 ·rw [ho] at h3; simpa using h3
 ·rw [e] at h4; simp at h4
 ·rcases h5 with h5 | h5
  ·have := Nat.le_of_ble_eq_true h5; omega
  ·exact h5
 ·rw [e] at h6; simp at h6
theorem woB {X base : List (Nat × Res)} {i1 t : Nat} (hne : t ≠ i1) : lk (qA8 i1 X ++ base) t = lk (X ++ base) t := by
 induction X with
 | nil => rfl
 | cons p X ih =>
   unfold qA8 at ih ⊢
   rw [List.filter_cons]
   split
   ·rw [List.cons_append, List.cons_append, qQ3, qQ3, ih]
   ·rename_i hp
    have e : p.1 = i1 := by
     simp only [Bool.not_eq_true', Bool.not_eq_false] at hp
     exact Nat.eq_of_beq_eq_true (by simpa using hp)
    rw [ih, List.cons_append, qQ3, if_neg (fun h => hne (by rw [<-h, e]))]
theorem woA {X base : List (Nat × Res)} {i1 t : Nat} {r : Res} (h0 : lk base i1 = none) (h : lk (qA8 i1 X ++ base) t = some r) : t ≠ i1 /\ lk (X ++ base) t = some r := by
 have hne : t ≠ i1 := fun e => by
  subst e
  rw [qX6 fun r' hm => ?_] at h
  ·rw [h0] at h; cases h
  ·have := (List.mem_filter.1 hm).2
   simp at this
 exact ⟨hne, by rw [<-woB hne]; exact h⟩
theorem KW.drawnW (hl : qJ1 P lay) (hT : FnsOk P fns) (hm : P.follows .mixedOrders = true) {id : Nat} {ops : Array Oper} {k : List K} {φ : Prop} {n : Nat} (s i0 c i1 kp : Nat) (hsz0 : Nat.blt n ops.size = true) (hdep : depOk ops = true) (htl : tailsOk ops n = true) (hat : (match lk A.rs i0 with | some _ => true | none => layBefore ops s i0 n) = true) (hst : specB ops A.rs n s i0 c i1 = true)
  {prs : List Ent} {sp : List (Nat × Res)} (hg : drawW lay fns ops A.rs (qA8 i0 A.rs) A.n s i0 c i1 kp (takeN n ops.toList) 0 A.sl [] [] True = some (prs, sp, φ)) (hfr : freshV1 ops prs sp A s i0 0 prs = true) (hφ : φ)
  (hn : KW P (.ops ops (dropN n ops.toList) :: k) .normal ⟨A.n, qV1 prs ++ A.sl, sp ++ (qA8 i1 (memE prs) ++ A.rs)⟩ Q) : KW P (.code (.region id ops true) :: k) .normal A Q := by
 rw [takeN_eq] at hg
 rw [dropN_eq] at hn
 have hsize : n < ops.size := by simpa [Nat.blt, Nat.succ_le_iff] using hsz0
 obtain ⟨_, hlen, hspn, hprs⟩ := drawW_spec hg hφ
 obtain ⟨hi1, hl1, hno, hsc, hne01⟩ := specB_ok hst
 have dep := depOk_ok hdep
 have hlen' : prs.length = n := by simp only [List.length_take, Array.length_toList] at hlen; omega
 have hsp0 : n ≤ s -> sp = [] := fun h => hspn (by simp only [List.length_take, Array.length_toList]; omega)
 have hstep := tailsOk_ok htl
 have hop : ∀ (i : Nat) op, i < n -> ops[i]? = some op -> if i = s then ∃ ys ψ, prs[i]? = some (ys, []) /\ stepS lay ⟨A.n, qK8 (qV1 (prs.take i) ++ A.sl) (qW8 ops op), pickR (memE (prs.take i)) (qW8 ops op) ++ A.rs⟩ i0 op = some (ys, sp, ψ) /\ ψ
   else if i = c then ∃ d y r1 ψ, prs[i]? = some ([(d, y)], [(d, r1)]) /\ stepS lay ⟨A.n, qK8 (qV1 (prs.take i) ++ A.sl) (qW8 ops op), pickR (memE (prs.take i)) (qW8 ops op) ++ A.rs⟩ i1 op = some ([(d, y)], [(d, r1), (i1, .gone)], ψ) /\ ψ
   else ∃ d y rn ψ, prs[i]? = some ([(d, y)], rn) /\ op.dst = some d /\ Nat.blt d A.n = true /\ stepW lay fns ⟨A.n, qK8 (qV1 (prs.take i) ++ A.sl) (qW8 ops op), bif qJ8 ops s i then A.rs else (bif qJ8 ops i s && Nat.blt s i then sp ++ qA8 i0 A.rs else qA8 i0 A.rs)⟩ ops op kp = some (y, rn, ψ) /\ ψ :=
  fun i op hin hi => by
   have := hprs i op (by rw [List.getElem?_take, if_pos hin]; simpa using hi)
   simpa only [Nat.zero_add, List.nil_append] using this
 -- what each lays
 have hent : ∀ (j : Nat) (p : Ent), prs[j]? = some p -> ∃ op, ops[j]? = some op /\ j < n /\ (∀ t x, (t, x) ∈ p.1 -> op.dst = some t /\ p.1 = [(t, x)]) /\ ∀ t r, (t, r) ∈ p.2 -> op.dst = some t /\ j ≠ s /\ ∃ y, p.1 = [(t, y)] := fun j p hj => by
  have hltn : j < n := by rw [<-hlen']; exact (List.getElem?_eq_some_iff.1 hj).1
  have hlt : j < ops.size := by omega
  refine ⟨ops[j], Array.getElem?_eq_getElem hlt, hltn, ?_⟩
  have h1 := hop j ops[j] hltn (Array.getElem?_eq_getElem hlt)
  split at h1
  ·rename_i e
   obtain ⟨ys, ψ, g1, g2, g3⟩ := h1
   rw [hj] at g1
   cases g1
   obtain ⟨_, ⟨d, r1, hd, rfl, _⟩ | ⟨r1, hd, rfl, _⟩⟩ := qA9 g2
   ·refine ⟨fun t x hm => ?_, fun t r hm => (by cases hm)⟩
    simp only [List.mem_singleton, Prod.mk.injEq] at hm
    obtain ⟨rfl, rfl⟩ := hm
    exact ⟨hd, rfl⟩
   ·exact ⟨fun t x hm => (by cases hm), fun t r hm => (by cases hm)⟩
  ·rename_i e
   split at h1
   ·obtain ⟨d, y, r1, ψ, g1, g2, g3⟩ := h1
    rw [hj] at g1
    cases g1
    have hd : (ops[j]).dst = some d := by
     obtain ⟨_, ⟨d', r1', hd, e1, _⟩ | ⟨r1', _, e1, _⟩⟩ := qA9 g2
     ·cases e1; exact hd
     ·cases e1
    refine ⟨fun t x hm => ?_, fun t r hm => ?_⟩
    ·simp only [List.mem_singleton, Prod.mk.injEq] at hm
     obtain ⟨rfl, rfl⟩ := hm
     exact ⟨hd, rfl⟩
    ·simp only [List.mem_singleton, Prod.mk.injEq] at hm
     obtain ⟨rfl, rfl⟩ := hm
     exact ⟨hd, e, y, rfl⟩
   obtain ⟨d, y, rn, ψ, g1, g2, g3, g4, g5⟩ := h1
   rw [hj] at g1
   cases g1
   refine ⟨fun t x hm => ?_, fun t r hm => ?_⟩
   ·simp only [List.mem_singleton, Prod.mk.injEq] at hm
    obtain ⟨rfl, rfl⟩ := hm
    exact ⟨g2, rfl⟩
   ·rcases stepW_shape g2 g4 with e' | ⟨r', e'⟩
    ·rw [e'] at hm; cases hm
    ·rw [e'] at hm
     simp only [List.mem_singleton, Prod.mk.injEq] at hm
     obtain ⟨rfl, rfl⟩ := hm
     exact ⟨g2, e, y, rfl⟩
 have huS : ∀ (j j' : Nat) (p p' : Ent) (t : Nat) (x x' : SV), prs[j]? = some p -> prs[j']? = some p' -> (t, x) ∈ p.1 -> (t, x') ∈ p'.1 -> j = j' /\ x' = x := fun j j' p p' t x x' hj hj' hm hm' => by
  obtain ⟨o1, h1, _, h2, _⟩ := hent j p hj
  obtain ⟨o2, h3, _, h4, _⟩ := hent j' p' hj'
  have e := dep.dist j j' o1 o2 t h1 h3 (h2 t x hm).1 (h4 t x' hm').1
  subst e
  rw [hj] at hj'
  cases hj'
  refine ⟨rfl, ?_⟩
  rw [(h2 t x hm).2] at hm'
  simpa using hm'
 have hapS : ApartL (prs.map (·.1)) := by
  intro i j q q' hij hi hj t r r' hm hm'
  obtain ⟨p, h1, rfl⟩ := qY7 hi
  obtain ⟨p', h2, rfl⟩ := qY7 hj
  exact hij (huS i j p p' t r r' h1 h2 hm hm').1
 have huM : ∀ (j j' : Nat) (p p' : Ent) (t : Nat) (x x' : Res), prs[j]? = some p -> prs[j']? = some p' -> (t, x) ∈ p.2 -> (t, x') ∈ p'.2 -> j = j' := fun j j' p p' t x x' hj hj' hm hm' => by
  obtain ⟨o1, h1, _, _, h2⟩ := hent j p hj
  obtain ⟨o2, h3, _, _, h4⟩ := hent j' p' hj'
  exact dep.dist j j' o1 o2 t h1 h3 (h2 t x hm).1 (h4 t x' hm').1
 have hapM : ApartL (prs.map (·.2)) := by
  intro i j q q' hij hi hj t r r' hm hm'
  obtain ⟨p, h1, rfl⟩ := qY7 hi
  obtain ⟨p', h2, rfl⟩ := qY7 hj
  exact hij (huM i j p p' t r r' h1 h2 hm hm')
 have hnew : ∀ (j : Nat) (p : Ent) (t : Nat) (r : Res), prs[j]? = some p -> (t, r) ∈ p.2 -> freshE ops t j 0 prs = true /\ (freshS t A.sl = true /\ qK7 t A.rs = true) /\ (t = i0 ∨ qK7 t sp = true) := fun j p t r hj hm => by
  obtain ⟨op, h1, h2, h3, h4⟩ := hent j p hj
  obtain ⟨h5, h6, y, h7⟩ := h4 t r hm
  have e : p = ((t, y) :: [], p.2) := Prod.ext h7 rfl
  have := freshV1_ok hfr j t y [] p.2 (by rw [hj, <-e]) (.inr fun e' => by rw [e'] at hm; cases hm)
  rw [Nat.zero_add] at this
  exact ⟨this.1, this.2.1, this.2.2 h6⟩
 -- the special number, laid here, is laid before it is looked at
 have hi0b : ∀ (j : Nat) (p : Ent) (r : Res), prs[j]? = some p -> (i0, r) ∈ p.2 -> qJ8 ops s j = true := fun j p r hj hm => by
  obtain ⟨op, h1, h2, h3, h4⟩ := hent j p hj
  obtain ⟨h5, h6, _⟩ := h4 i0 r hm
  have hf := (hnew j p i0 r hj hm).2.1.2
  have hno : lk A.rs i0 = none := by
   cases hlk : lk A.rs i0 with
   | none => rfl
   | some r' => exact absurd rfl (qX4 hf (lk_mem hlk)).1
  rw [hno] at hat
  exact layBefore_ok hat h2 h1 h5 h6
 have hi1b : ∀ (j : Nat) (p : Ent) (r : Res), prs[j]? = some p -> (i1, r) ∈ p.2 -> j ≠ c -> qJ8 ops c j = true := fun j p r hj hm hne => by
  obtain ⟨op, h1, h2, h3, h4⟩ := hent j p hj
  obtain ⟨h5, h6, _⟩ := h4 i1 r hm
  exact layBefore_ok hl1 h2 h1 h5 hne
 let SL : (Nat -> Bool) -> List (Nat × SV) := fun ls => qB3 ls 0 (prs.map (·.1)) ++ A.sl
 let CL : (Nat -> Bool) -> List (Nat × Res) := fun ls => if ls c then qA8 i1 (qB3 ls 0 (prs.map (·.2))) else qB3 ls 0 (prs.map (·.2))
 let RS : (Nat -> Bool) -> List (Nat × Res) := fun ls => (if ls s then sp else []) ++ (CL ls ++ A.rs)
 have hSLin : ∀ (ls : Nat -> Bool) (j : Nat) (p : Ent) (t : Nat) (x : SV), prs[j]? = some p -> (t, x) ∈ p.1 -> ls j = true -> lk (SL ls) t = some x := fun ls j p t x hj hm hls => by
  refine pickL_in (k := 0) (i := j) (p := p.1) (by rw [List.getElem?_map, hj]; rfl) (by simpa using hls) ?_ fun j' q hne hq r' hm' => ?_
  ·obtain ⟨r, hr⟩ := lkA_of hm
   rw [hr, (huS j j p p t x r hj hj hm (lkM hr)).2]
  ·obtain ⟨p', h2, rfl⟩ := qY7 hq
   exact hne (huS j j' p p' t x r' hj h2 hm hm').1.symm
 have hSLout : ∀ (ls : Nat -> Bool) (t : Nat), (∀ (j : Nat) (p : Ent) (x : SV), prs[j]? = some p -> ls j = true -> (t, x) ∉ p.1) -> lk (SL ls) t = lk A.sl t := fun ls t hno =>
  pickL_out fun j q hq hls r hm => by
   obtain ⟨p', h2, rfl⟩ := qY7 hq
   exact hno j p' r h2 hls hm
 have hPMin : ∀ (ls : Nat -> Bool) (j : Nat) (p : Ent) (t : Nat) (x : Res), prs[j]? = some p -> lk p.2 t = some x -> ls j = true -> lk (qB3 ls 0 (prs.map (·.2)) ++ A.rs) t = some x := fun ls j p t x hj hm hls => by
  refine pickL_in (k := 0) (i := j) (p := p.2) (by rw [List.getElem?_map, hj]; rfl) (by simpa using hls) hm fun j' q hne hq r' hm' => ?_
  obtain ⟨p', h2, rfl⟩ := qY7 hq
  exact hne (huM j j' p p' t x r' hj h2 (lkM hm) hm').symm
 have hPMout : ∀ (ls : Nat -> Bool) (t : Nat), (∀ (j : Nat) (p : Ent) (x : Res), prs[j]? = some p -> ls j = true -> (t, x) ∉ p.2) -> lk (qB3 ls 0 (prs.map (·.2)) ++ A.rs) t = lk A.rs t := fun ls t hno =>
  pickL_out fun j q hq hls r hm => by
   obtain ⟨p', h2, rfl⟩ := qY7 hq
   exact hno j p' r h2 hls hm
 have hPMbase : ∀ (ls : Nat -> Bool) (t : Nat) (r : Res), lk A.rs t = some r -> lk (qB3 ls 0 (prs.map (·.2)) ++ A.rs) t = some r := fun ls t r hr => by
  rw [hPMout ls t fun j p x hj _ hm => ?_]
  ·exact hr
  ·exact (qX4 (hnew j p t x hj hm).2.1.2 (lk_mem hr)).1 rfl
 have hF1 : ∀ (ls : Nat -> Bool) (t : Nat) (r : Res), lk (CL ls ++ A.rs) t = some r -> lk (qB3 ls 0 (prs.map (·.2)) ++ A.rs) t = some r := fun ls t r hr => by
  simp only [CL] at hr
  split at hr
  ·exact (woA hi1 hr).2
  ·exact hr
 have hF2 : ∀ (ls : Nat -> Bool) (t : Nat) (r : Res), (ls c = true -> t ≠ i1) -> lk (qB3 ls 0 (prs.map (·.2)) ++ A.rs) t = some r -> lk (CL ls ++ A.rs) t = some r := fun ls t r hne hr => by
  simp only [CL]
  split
  ·rename_i e; rw [woB (hne e)]; exact hr
  ·exact hr
 have hF3 : ∀ (ls : Nat -> Bool) (t : Nat) (r : Res), ls c = true -> lk (CL ls ++ A.rs) t = some r -> t ≠ i1 := fun ls t r hc hr => by
  simp only [CL, hc, if_true] at hr
  exact (woA hi1 hr).1
 have hF4 : ∀ (ls : Nat -> Bool) (t : Nat) (r : Res), (t, r) ∈ CL ls -> (t, r) ∈ qB3 ls 0 (prs.map (·.2)) := fun ls t r hm => by
  simp only [CL] at hm
  split at hm
  ·exact (List.mem_filter.1 hm).1
  ·exact hm
 have hCbase : ∀ (ls : Nat -> Bool) (t : Nat) (r : Res), lk A.rs t = some r -> lk (CL ls ++ A.rs) t = some r := fun ls t r hr =>
  hF2 ls t r (fun _ e => by rw [e, hi1] at hr; cases hr) (hPMbase ls t r hr)
 intro o h tm w hs
 show (Code.region id ops true).wp P (kq P (lift Q o w) k) ⟨tm, []⟩ w
 refine wp_region_any hm ?_
 have main : ∀ (fuel : Nat) (listed : Array Bool) (o' : Nat -> Tag) (h' : Nat -> Value) (tm' : Array Value) (w' : World), listed.size = ops.size -> (∀ j, n ≤ j -> listed.getD j false = false) -> cntU (fun j => listed.getD j false) n + (ops.size - n) ≤ fuel ->
   (∀ (i : Nat) oi, ops[i]? = some oi -> listed.getD i false = true -> ∀ e ∈ oi.after, Region.binds .any e = true -> listed.getD e.on false = true) ->
   Sat o' h' ⟨A.n, SL (fun j => listed.getD j false), RS (fun j => listed.getD j false)⟩ tm' w' -> Ext o w o' w' -> wpAny P .any ops (kq P (lift Q o w) k) fuel listed ⟨tm', []⟩ w' := by
  intro fuel
  -- all have come up
  have full : ∀ (listed : Array Bool) (o' : Nat -> Tag) (h' : Nat -> Value) (tm' : Array Value) (w' : World), (∀ j, j < n -> listed.getD j false = true) ->
    Sat o' h' ⟨A.n, SL (fun j => listed.getD j false), RS (fun j => listed.getD j false)⟩ tm' w' -> Ext o w o' w' -> kq P (lift Q o w) (.ops ops (ops.toList.drop n) :: k) .normal ⟨tm', []⟩ w' := by
   intro listed o' h' tm' w' hall hs' hx
   refine qB7 (qW2 hx) (.ops ops (ops.toList.drop n) :: k) .normal _ w' (hn o' h' tm' w' ?_)
   refine ⟨hs'.size, hs'.tags, fun t x hl => hs'.slot t x ?_, fun i r hl => hs'.res i r ?_⟩
   ·simp only at hl ⊢
    by_cases hex : ∃ (j : Nat) (p : Ent) (y : SV), prs[j]? = some p /\ (t, y) ∈ p.1
    ·obtain ⟨j, p, y, hj, hy⟩ := hex
     obtain ⟨_, _, hjn, _⟩ := hent j p hj
     rw [lkU (qW4.2 ⟨j, p, hj, hy⟩) fun y' hy' => (by
      obtain ⟨j', p', hj', hm'⟩ := qW4.1 hy'
      exact (huS j j' p p' t y y' hj hj' hy hm').2)] at hl
     cases hl
     exact hSLin _ j p t _ hj hy (by simpa using hall j hjn)
    ·rw [qX6 fun y hy => (by
      obtain ⟨j', p', hj', hm'⟩ := qW4.1 hy
      exact hex ⟨j', p', y, hj', hm'⟩)] at hl
     rw [hSLout _ t fun j p x hj _ hm => hex ⟨j, p, x, hj, hm⟩]
     exact hl
   ·simp only at hl ⊢
    have e1 : (if listed.getD s false then sp else []) = sp := by
     by_cases hsn : s < n
     ·rw [hall s hsn]; rfl
     ·rw [hsp0 (by omega)]; split <;> rfl
    have e2 : qB3 (fun j => listed.getD j false) 0 (prs.map (·.2)) = memE prs := pickL_all fun j hj => by
     simp only [List.length_map, hlen'] at hj
     simpa using hall j hj
    simp only [RS, e1]
    by_cases hmem : ∃ r', (i, r') ∈ sp
    ·obtain ⟨r', hmem⟩ := hmem
     obtain ⟨r2, h2⟩ := lkA_of hmem
     rw [qD2 h2] at hl ⊢
     exact hl
    ·rw [qX6 fun r' h' => hmem ⟨r', h'⟩] at hl ⊢
     obtain ⟨g1, g2⟩ := woA hi1 hl
     exact hF2 (fun j => listed.getD j false) i r (fun _ => g1) (by rw [e2]; exact g2)
  have done : ∀ (listed : Array Bool), listed.size = ops.size -> Region.ready .any ops listed = [] -> ∀ j, j < ops.size -> listed.getD j false = true := by
   intro listed hsz hr j
   induction j using Nat.strongRecOn with
   | ind j ih =>
     intro hj
     cases hlj : listed.getD j false with
     | true => rfl
     | false =>
       exfalso
       have : j ∈ Region.ready .any ops listed := by
        rw [mem_ready]
        refine ⟨?_, ops[j], Array.getElem?_eq_getElem hj, fun e he hb => ?_⟩
        ·rw [Array.getD_eq_getD_getElem?] at hlj ⊢
         rw [Array.getElem?_eq_getElem (by omega)] at hlj ⊢
         exact hlj
        ·have hlt := dep.below j ops[j] (Array.getElem?_eq_getElem hj) e he hb
         exact ih e.on hlt (by omega)
       rw [hr] at this
       cases this
  induction fuel with
  | zero =>
    intro listed o' h' tm' w' hsz hnl hc
    omega
  | succ fuel ih =>
    intro listed o' h' tm' w' hsz hnl hc hcl hs' hx
    refine ⟨fun hr => (by have := done listed hsz hr n (by omega); rw [hnl n (Nat.le_refl n)] at this; cases this), fun i hi => ?_⟩
    by_cases hin : n ≤ i
    ·obtain ⟨hun, op, hop', haft⟩ := mem_ready.1 hi
     have hlt : i < ops.size := (Array.getElem?_eq_some_iff.1 hop').1
     have hall : ∀ d j, j < i -> i ≤ j + d -> listed.getD j false = true := by
      intro d
      induction d with
      | zero => intro j h1 h2; omega
      | succ d ihd =>
        intro j h1 h2
        obtain ⟨q, oq, h3, h3', h4, e, h5, h6, h7⟩ := hstep i hin hlt j h1
        by_cases hqi : q = i
        ·subst hqi
         rw [hop'] at h4
         cases h4
         rw [<-h7]; exact haft e h5 h6
        ·have := ihd q (by omega) (by omega)
         rw [<-h7]; exact hcl q oq h4 this e h5 h6
     have hi0 : i = n := by
      rcases Nat.lt_or_ge n i with h | h
      ·have := hall i n h (by omega)
       rw [hnl n (Nat.le_refl n)] at this; cases this
      ·omega
     subst hi0
     have hf := full listed o' h' tm' w' (fun j hj => hall i j hj (by omega)) hs' hx
     exact (tailSeq hstep dep.below (ops.size - i) i (fuel + 1) listed ⟨tm', []⟩ w' (by omega) (Nat.le_refl _) hsz (fun j hj => hall i j hj (by omega)) hnl (by omega) hf).2 i hi
    obtain ⟨hun, op, hop', haft⟩ := mem_ready.1 hi
    have hlt : i < ops.size := (Array.getElem?_eq_some_iff.1 hop').1
    have hun' : listed.getD i false = false := by
     rw [Array.getD_eq_getD_getElem?, Array.getElem?_eq_getElem (by omega)] at hun ⊢
     exact hun
    have h1 := hop i op (by omega) hop'
    -- what has to come before the special one has come, once that one has
    have hsb : listed.getD s false = true -> ∀ j, qJ8 ops s j = true -> listed.getD j false = true := fun hls j hb => by
     exact qW3 (ls := fun j => listed.getD j false) hcl hb hls
    have hsl : ∀ t x, lk (qK8 (qV1 (prs.take i) ++ A.sl) (qW8 ops op)) t = some x -> lk (SL (fun j => listed.getD j false)) t = some x := fun t x hl => by
     obtain ⟨e1, hm⟩ := pickS_lk hl
     by_cases hex : ∃ (j : Nat) (p : Ent) (y : SV), prs[j]? = some p /\ (t, y) ∈ p.1
     ·obtain ⟨j, p, y', hj, hy⟩ := hex
      obtain ⟨oj, hoj, _, hdj, _⟩ := hent j p hj
      rcases dep.look i j op oj t hop' hoj (hdj t y' hy).1 hm with ⟨hji, e, he, hb, heq⟩ | ⟨hij, e, he, hb, heq⟩
      ·have hlj : listed.getD j false = true := by rw [<-heq]; exact haft e he hb
       rw [lkU (qW4.2 ⟨j, p, by rw [List.getElem?_take, if_pos hji]; exact hj, hy⟩) fun y'' hy'' => (by
        obtain ⟨j', p', hj', hm'⟩ := qW4.1 hy''
        rw [List.getElem?_take] at hj'
        split at hj'
        ·exact (huS j j' p p' t y' y'' hj hj' hy hm').2
        ·cases hj')] at e1
       cases e1
       exact hSLin _ j p t _ hj hy (by simpa using hlj)
      ·have hlj : listed.getD j false = false := by
        cases hlj : listed.getD j false with
        | false => rfl
        | true =>
          have := hcl j oj hoj hlj e he hb
          rw [heq, hun'] at this
          cases this
       rw [qX6 fun y'' hy'' => (by
        obtain ⟨j', p', hj', hm'⟩ := qW4.1 hy''
        rw [List.getElem?_take] at hj'
        split at hj'
        ·have := (huS j j' p p' t y' y'' hj hj' hy hm').1
         omega
        ·cases hj')] at e1
       rw [hSLout _ t fun j' p' x' hj' hls hm' => (by
        have := (huS j j' p p' t y' x' hj hj' hy hm').1
        subst this
        rw [hlj] at hls; cases hls)]
       exact e1
     ·rw [qX6 fun y'' hy'' => (by
       obtain ⟨j', p', hj', hm'⟩ := qW4.1 hy''
       rw [List.getElem?_take] at hj'
       split at hj'
       ·exact hex ⟨j', p', y'', hj', hm'⟩
       ·cases hj')] at e1
      rw [hSLout _ t fun j' p' x' hj' hls hm' => hex ⟨j', p', x', hj', hm'⟩]
      exact e1
    have hget : ∀ j, (listed.setIfInBounds i true).getD j false = if j = i then true else listed.getD j false := fun j => by
     by_cases hji : j = i
     ·subst hji
      rw [if_pos rfl, Array.getD_eq_getD_getElem?, Array.getElem?_setIfInBounds_self]
      simp [hsz, hlt]
     ·rw [if_neg hji, getD_set_ne false (Ne.symm hji)]
    have next : ∀ {ys : List (Nat × SV)} {rn sp' : List (Nat × Res)}, prs[i]? = some (ys, rn) -> (∀ t r, lk (RS (fun j => (listed.setIfInBounds i true).getD j false)) t = some r -> lk (sp' ++ RS (fun j => listed.getD j false)) t = some r) ->
      ∀ o2 h2 tm2 w1, Sat o2 h2 ⟨A.n, ys ++ SL (fun j => listed.getD j false), sp' ++ RS (fun j => listed.getD j false)⟩ tm2 w1 -> Ext o' w' o2 w1 -> wpAny P .any ops (kq P (lift Q o w) k) fuel (listed.setIfInBounds i true) ⟨tm2, []⟩ w1 := fun {ys rn sp'} hpi hrs o2 h2 tm2 w1 hs2 hext => by
     refine ih (listed.setIfInBounds i true) o2 h2 _ w1 (by simp [hsz]) (fun j hj => by rw [hget, if_neg (by omega)]; exact hnl j hj) ?_ ?_ ⟨hs2.size, hs2.tags, fun t x hlk => hs2.slot t x ?_, fun t r hlk => hs2.res t r (hrs t r hlk)⟩ (hx.trans hext)
     ·have := cntU_upd (ls := fun j => listed.getD j false) (ls' := fun j => (listed.setIfInBounds i true).getD j false) (i := i) (n := n) (by omega) hun' (by simp [hget]) fun j hj => by simp [hget, hj]
      omega
     ·intro j oj hoj hlj e he hb
      rw [hget] at hlj ⊢
      by_cases he' : e.on = i
      ·rw [if_pos he']
      ·rw [if_neg he']
       by_cases hji : j = i
       ·subst hji
        rw [hop'] at hoj
        cases hoj
        exact haft e he hb
       ·rw [if_neg hji] at hlj
        exact hcl j oj hoj hlj e he hb
     ·exact qE0 (p := ys) hapS (by rw [List.getElem?_map, hpi]; rfl) (by simp [hget]) (fun j hj => by simp [hget, hj]) hlk
    -- what a special one qW8 at is there
    have hsee : ∀ {t : Nat} {r : Res}, (∀ r', (t, r') ∈ pickR (memE (prs.take i)) (qW8 ops op) -> listed.getD c false = true -> t ≠ i1) -> lk (pickR (memE (prs.take i)) (qW8 ops op) ++ A.rs) t = some r -> lk (CL (fun j => listed.getD j false) ++ A.rs) t = some r := fun {t r} hti hr => by
      by_cases hm : ∃ r', (t, r') ∈ pickR (memE (prs.take i)) (qW8 ops op)
      ·obtain ⟨r', hm⟩ := hm
       have hti := hti r' hm
       obtain ⟨r2, h2⟩ := lkA_of hm
       rw [qD2 h2] at hr
       cases hr
       have hm2 := lkM h2
       rw [pickR, List.mem_filter] at hm2
       obtain ⟨hm3, hlook⟩ := hm2
       obtain ⟨j, p, hj, hm4⟩ := memE_mem.1 hm3
       rw [List.getElem?_take] at hj
       split at hj
       ·rename_i hji
        obtain ⟨oj, hoj, _, _, hdj⟩ := hent j p hj
        obtain ⟨k1, k2, y, k3⟩ := hdj t _ hm4
        rcases dep.look i j op oj t hop' hoj k1 (memN_yes hlook) with ⟨_, ed, hed, hb, heq⟩ | ⟨hij, _⟩
        ·have hlj : listed.getD j false = true := by rw [<-heq]; exact haft ed hed hb
         obtain ⟨r4, h4⟩ := lkA_of hm4
         have e4 : r4 = r := by
          have h5 := hop j oj (by omega) hoj
          rw [if_neg k2] at h5
          split at h5
          ·obtain ⟨d', y', r1', ψ', q1, q2, _⟩ := h5
           rw [hj] at q1
           cases q1
           simp only [List.mem_singleton, Prod.mk.injEq] at hm4
           obtain ⟨rfl, rfl⟩ := hm4
           rw [qQ3, if_pos rfl] at h4
           cases h4; rfl
          ·obtain ⟨d', y', rn', ψ', q1, q2, _, q4, _⟩ := h5
           rw [hj] at q1
           cases q1
           rcases stepW_shape q2 q4 with e | ⟨r5, e⟩
           ·rw [e] at hm4; cases hm4
           ·rw [e] at hm4 h4
            simp only [List.mem_singleton, Prod.mk.injEq] at hm4
            obtain ⟨rfl, rfl⟩ := hm4
            rw [qQ3, if_pos rfl] at h4
            cases h4; rfl
         rw [e4] at h4
         exact hF2 (fun j => listed.getD j false) t r (fun hc => hti hc) (hPMin (fun j => listed.getD j false) j p t r hj h4 (by simpa using hlj))
        ·omega
       ·cases hj
      ·rw [qX6 fun r' h' => hm ⟨r', h'⟩] at hr
       exact hCbase (fun j => listed.getD j false) t r hr
    by_cases his : i = s
    ·rw [if_pos his] at h1
     obtain ⟨ys, ψ, g1, g2, g3⟩ := h1
     have huns : listed.getD s false = false := by rw [<-his]; exact hun'
     have hRS : RS (fun j => listed.getD j false) = CL (fun j => listed.getD j false) ++ A.rs := by
      simp only [RS, huns]; rfl
     refine stepS_wp hl hop' (A := ⟨A.n, SL (fun j => listed.getD j false), RS (fun j => listed.getD j false)⟩) (B := ⟨A.n, qK8 (qV1 (prs.take i) ++ A.sl) (qW8 ops op), pickR (memE (prs.take i)) (qW8 ops op) ++ A.rs⟩) ⟨rfl, fun t r hr => ?_, hsl⟩ hs' g2 g3 (fun d y hdy => ?_) (next g1 fun t r hr => ?_)
     ·simp only at hr ⊢
      rw [hRS]
      refine hsee (fun r' hm _ e => ?_) hr
      rw [pickR, List.mem_filter] at hm
      have hlook := hm.2
      simp only [e] at hlook
      have := hno op (by rw [<-his]; exact hop')
      rw [this] at hlook; cases hlook
     ·have hf := freshV1_ok hfr i d y [] [] (by
       rw [g1]
       obtain ⟨_, ⟨d', r1, _, e, _⟩ | ⟨r1, _, e, _⟩⟩ := qA9 g2
       ·rw [e] at hdy ⊢
        simp only [List.mem_singleton, Prod.mk.injEq] at hdy
        obtain ⟨rfl, rfl⟩ := hdy
        rfl
       ·rw [e] at hdy; cases hdy) (.inl (by omega))
      rw [Nat.zero_add] at hf
      rw [hRS]
      refine fresh_super hf.2.1.1 hf.2.1.2 (fun t x hm => ?_) (fun t r hm => ?_)
      ·obtain ⟨j, q, hj, hlj, hm'⟩ := qA2 hm
       obtain ⟨p', hj', rfl⟩ := qY7 hj
       exact menL_ok (qB8 hf.1 j p' hj' (by intro e; rw [Nat.zero_add] at e hlj; subst e; rw [hun'] at hlj; cases hlj) (by
        rw [Nat.zero_add] at hlj ⊢
        cases hbo : qJ8 ops j i with
        | false => rfl
        | true =>
          have := qW3 (ls := fun j => listed.getD j false) hcl hbo hlj
          rw [hun'] at this; cases this)).1 t x hm'
      ·obtain ⟨j, q, hj, hlj, hm'⟩ := qA2 (hF4 (fun j => listed.getD j false) t r hm)
       obtain ⟨p', hj', rfl⟩ := qY7 hj
       exact qX4 (qB8 hf.1 j p' hj' (by intro e; rw [Nat.zero_add] at e hlj; subst e; rw [hun'] at hlj; cases hlj) (by
        rw [Nat.zero_add] at hlj ⊢
        cases hbo : qJ8 ops j i with
        | false => rfl
        | true =>
          have := qW3 (ls := fun j => listed.getD j false) hcl hbo hlj
          rw [hun'] at this; cases this)).2 hm'
     ·have hnews : (listed.setIfInBounds i true).getD s false = true := by rw [hget, if_pos his.symm]
      have hcs : (listed.setIfInBounds i true).getD c false = listed.getD c false := by rw [hget, if_neg (fun e => hsc.1 (by rw [<-his, <-e]))]
      have hRS' : RS (fun j => (listed.setIfInBounds i true).getD j false) = sp ++ (CL (fun j => (listed.setIfInBounds i true).getD j false) ++ A.rs) := by
       simp only [RS, hnews]; rfl
      rw [hRS'] at hr
      rw [hRS]
      by_cases hmem : ∃ r', (t, r') ∈ sp
      ·obtain ⟨r', hmem⟩ := hmem
       obtain ⟨r2, h2⟩ := lkA_of hmem
       rw [qD2 h2] at hr ⊢
       exact hr
      ·rw [qX6 fun r' h' => hmem ⟨r', h'⟩] at hr ⊢
       have := qE0 (p := []) hapM (by rw [List.getElem?_map, g1]; rfl) (ls' := fun j => (listed.setIfInBounds i true).getD j false) (ls := fun j => listed.getD j false) (by simp [hget]) (fun j hj => by simp [hget, hj]) (hF1 (fun j => (listed.setIfInBounds i true).getD j false) t r hr)
       exact hF2 (fun j => listed.getD j false) t r (fun hc => hF3 (fun j => (listed.setIfInBounds i true).getD j false) t r (by show (listed.setIfInBounds i true).getD c false = true; rw [hcs]; exact hc) hr) (by simpa using this)
    ·rw [if_neg his] at h1
     by_cases hic : i = c
     ·rw [if_pos hic] at h1
      obtain ⟨d, y, r1, ψ, g1, g2, g3⟩ := h1
      have hunc : listed.getD c false = false := by rw [<-hic]; exact hun'
      have huns : listed.getD s false = false := by
       cases hls : listed.getD s false with
       | false => rfl
       | true => have := hsb hls c (hsc.2 (by omega)); rw [hunc] at this; cases this
      have hRS : RS (fun j => listed.getD j false) = CL (fun j => listed.getD j false) ++ A.rs := by
       simp only [RS, huns]; rfl
      refine stepS_wp hl hop' (A := ⟨A.n, SL (fun j => listed.getD j false), RS (fun j => listed.getD j false)⟩) (B := ⟨A.n, qK8 (qV1 (prs.take i) ++ A.sl) (qW8 ops op), pickR (memE (prs.take i)) (qW8 ops op) ++ A.rs⟩) ⟨rfl, fun t r hr => ?_, hsl⟩ hs' g2 g3 (fun d' y' hdy => ?_) (next g1 fun t r hr => ?_)
      ·simp only at hr ⊢
       rw [hRS]
       exact hsee (fun r' _ hc => by rw [hunc] at hc; cases hc) hr
      ·simp only [List.mem_singleton, Prod.mk.injEq] at hdy
       obtain ⟨rfl, rfl⟩ := hdy
       have hf := hnew i _ d' r1 g1 (.head _)
       rw [hRS]
       refine fresh_super hf.2.1.1 hf.2.1.2 (fun t x hm => ?_) (fun t r hm => ?_)
       ·obtain ⟨j, q, hj, hlj, hm'⟩ := qA2 hm
        obtain ⟨p', hj', rfl⟩ := qY7 hj
        exact menL_ok (qB8 hf.1 j p' hj' (by intro e; rw [Nat.zero_add] at e hlj; subst e; rw [hun'] at hlj; cases hlj) (by
         rw [Nat.zero_add] at hlj ⊢
         cases hbo : qJ8 ops j i with
         | false => rfl
         | true =>
           have := qW3 (ls := fun j => listed.getD j false) hcl hbo hlj
           rw [hun'] at this; cases this)).1 t x hm'
       ·obtain ⟨j, q, hj, hlj, hm'⟩ := qA2 (hF4 (fun j => listed.getD j false) t r hm)
        obtain ⟨p', hj', rfl⟩ := qY7 hj
        exact qX4 (qB8 hf.1 j p' hj' (by intro e; rw [Nat.zero_add] at e hlj; subst e; rw [hun'] at hlj; cases hlj) (by
         rw [Nat.zero_add] at hlj ⊢
         cases hbo : qJ8 ops j i with
         | false => rfl
         | true =>
           have := qW3 (ls := fun j => listed.getD j false) hcl hbo hlj
           rw [hun'] at this; cases this)).2 hm'
      ·have hnews : (listed.setIfInBounds i true).getD s false = listed.getD s false := by rw [hget, if_neg (Ne.symm his)]
       have hnewc : (listed.setIfInBounds i true).getD c false = true := by rw [hget, if_pos hic.symm]
       have hRS' : RS (fun j => (listed.setIfInBounds i true).getD j false) = CL (fun j => (listed.setIfInBounds i true).getD j false) ++ A.rs := by
        simp only [RS, hnews, huns]; rfl
       rw [hRS'] at hr
       rw [hRS]
       have hne := hF3 (fun j => (listed.setIfInBounds i true).getD j false) t r hnewc hr
       have := qE0 (p := [(d, r1)]) hapM (by rw [List.getElem?_map, g1]; rfl) (ls' := fun j => (listed.setIfInBounds i true).getD j false) (ls := fun j => listed.getD j false) (by simp [hget]) (fun j hj => by simp [hget, hj]) (hF1 (fun j => (listed.setIfInBounds i true).getD j false) t r hr)
       rw [List.cons_append, qQ3] at this ⊢
       by_cases e : d = t
       ·rw [if_pos e] at this ⊢; exact this
       ·rw [if_neg e] at this ⊢
        rw [List.cons_append, qQ3, if_neg (Ne.symm hne)]
        exact hF2 (fun j => listed.getD j false) t r (fun hc => by rw [hunc] at hc; cases hc) (by simpa using this)
     rw [if_neg hic] at h1
     obtain ⟨d, y, rn, ψ, g1, g2, g3, g4, g5⟩ := h1
     have hkey : ∀ t r, (t, r) ∈ rn -> t = d := fun t r hm => by
      rcases stepW_shape g2 g4 with e | ⟨r', e⟩
      ·rw [e] at hm; cases hm
      ·rw [e] at hm
       simp only [List.mem_singleton, Prod.mk.injEq] at hm
       exact hm.1
     -- the new number is none of the special ones, once these are there
     have hspd : listed.getD s false = true -> ∀ t r, (t, r) ∈ rn -> qK7 t sp = true := fun hls t r hm => by
      rcases (hnew i _ t r g1 hm).2.2 with e | e
      ·rw [e] at hm
       have := hsb hls i (hi0b i _ r g1 hm)
       rw [hun'] at this; cases this
      ·exact e
     have hfr' : rn ≠ [] -> qW9 ⟨A.n, SL (fun j => listed.getD j false), RS (fun j => listed.getD j false)⟩ d = true := fun hne => by
      obtain ⟨r, hr⟩ : ∃ r, (d, r) ∈ rn := by
       rcases stepW_shape g2 g4 with e | ⟨r', e⟩
       ·exact absurd e hne
       ·exact ⟨r', by rw [e]; exact .head _⟩
      have hf := hnew i _ d r g1 hr
      simp only [RS]
      rw [<-List.append_assoc]
      refine fresh_super hf.2.1.1 hf.2.1.2 (fun t x hm => ?_) (fun t r' hm => ?_)
      ·obtain ⟨j, q, hj, hlj, hm'⟩ := qA2 hm
       obtain ⟨p', hj', rfl⟩ := qY7 hj
       exact menL_ok (qB8 hf.1 j p' hj' (by intro e; rw [Nat.zero_add] at e hlj; subst e; rw [hun'] at hlj; cases hlj) (by
        rw [Nat.zero_add] at hlj ⊢
        cases hbo : qJ8 ops j i with
        | false => rfl
        | true =>
          have := qW3 (ls := fun j => listed.getD j false) hcl hbo hlj
          rw [hun'] at this; cases this)).1 t x hm'
      ·rcases List.mem_append.1 hm with hm | hm
       ·split at hm
        ·rename_i hls
         exact qX4 (hspd hls d r hr) hm
        ·cases hm
       ·obtain ⟨j, q, hj, hlj, hm'⟩ := qA2 (hF4 (fun j => listed.getD j false) t r' hm)
        obtain ⟨p', hj', rfl⟩ := qY7 hj
        exact qX4 (qB8 hf.1 j p' hj' (by intro e; rw [Nat.zero_add] at e hlj; subst e; rw [hun'] at hlj; cases hlj) (by
        rw [Nat.zero_add] at hlj ⊢
        cases hbo : qJ8 ops j i with
        | false => rfl
        | true =>
          have := qW3 (ls := fun j => listed.getD j false) hcl hbo hlj
          rw [hun'] at this; cases this)).2 hm'
     refine stepW_wp hl hT hop' (A := ⟨A.n, SL (fun j => listed.getD j false), RS (fun j => listed.getD j false)⟩) (B := ⟨A.n, qK8 (qV1 (prs.take i) ++ A.sl) (qW8 ops op), bif qJ8 ops s i then A.rs else (bif qJ8 ops i s && Nat.blt s i then sp ++ qA8 i0 A.rs else qA8 i0 A.rs)⟩) ⟨rfl, fun t r hr => ?_, hsl⟩ hs' g2 g3 g4 g5 hfr' fun o2 h2 v w1 hs2 hext => next g1 (sp' := rn) (fun t r hr => ?_) o2 h2 _ w1 hs2 hext
     ·simp only at hr ⊢
      cases hbo : qJ8 ops s i with
      | true =>
        rw [hbo] at hr
        have huns : listed.getD s false = false := by
         cases hls : listed.getD s false with
         | false => rfl
         | true => have := hsb hls i hbo; rw [hun'] at this; cases this
        simp only [RS, huns]
        exact hCbase (fun j => listed.getD j false) t r hr
      | false =>
        rw [hbo] at hr
        cases hb2 : (qJ8 ops i s && Nat.blt s i) with
        | true =>
          rw [hb2] at hr
          have hls : listed.getD s false = true := by
           have h3 := qW3 (ls := fun j => (listed.setIfInBounds i true).getD j false) (fun j oj hoj hlj e he hb => by
            rw [hget] at hlj ⊢
            by_cases he' : e.on = i
            ·rw [if_pos he']
            ·rw [if_neg he']
             by_cases hji : j = i
             ·subst hji
              rw [hop'] at hoj
              cases hoj
              exact haft e he hb
             ·rw [if_neg hji] at hlj
              exact hcl j oj hoj hlj e he hb) (Bool.and_eq_true_iff.1 hb2).1 (by simp [hget])
           rw [hget, if_neg (Ne.symm his)] at h3
           exact h3
          simp only [RS, hls, if_true]
          replace hr : lk (sp ++ qA8 i0 A.rs) t = some r := hr
          by_cases hmem : ∃ r', (t, r') ∈ sp
          ·obtain ⟨r', hmem⟩ := hmem
           obtain ⟨r2, h2⟩ := lkA_of hmem
           rw [qD2 h2] at hr ⊢
           exact hr
          ·rw [qX6 fun r' h' => hmem ⟨r', h'⟩] at hr ⊢
           exact hCbase (fun j => listed.getD j false) t r (without_lk hr).1
        | false =>
        rw [hb2] at hr
        obtain ⟨k1, k2⟩ := without_lk (show lk (qA8 i0 A.rs) t = some r from hr)
        simp only [RS]
        rw [qX6 fun r' hm => ?_]
        ·exact hCbase (fun j => listed.getD j false) t r k1
        ·split at hm
         ·rename_i hls
          by_cases hsn : s < n
          ·have h6 := hop s ops[s] hsn (Array.getElem?_eq_getElem (by omega))
           rw [if_pos rfl] at h6
           obtain ⟨ys, ψ', q1, q2, _⟩ := h6
           rcases stepS_keys q2 t r' hm with e | ⟨y', hy'⟩
           ·exact k2 e
           ·obtain ⟨_, ⟨d', r1, _, e, _⟩ | ⟨r1, _, e, _⟩⟩ := qA9 q2
            ·rw [e] at q1 hy'
             simp only [List.mem_singleton, Prod.mk.injEq] at hy'
             obtain ⟨rfl, _⟩ := hy'
             have hf := freshV1_ok hfr s t _ [] [] q1 (.inl (by omega))
             exact (qX4 hf.2.1.2 (lk_mem k1)).1 rfl
            ·rw [e] at hy'; cases hy'
          ·rw [hsp0 (by omega)] at hm; cases hm
         ·cases hm
     ·have hnews : (listed.setIfInBounds i true).getD s false = listed.getD s false := by rw [hget, if_neg (Ne.symm his)]
      simp only [RS, hnews] at hr ⊢
      by_cases hmem : ∃ r', (t, r') ∈ (if listed.getD s false = true then sp else [])
      ·obtain ⟨r', hmem⟩ := hmem
       rw [qX6 fun r2 h2 => ?_]
       ·obtain ⟨r3, h3⟩ := lkA_of hmem
        rw [qD2 h3] at hr ⊢
        exact hr
       ·split at hmem
        ·rename_i hls
         exact (qX4 (hspd hls t r2 h2) hmem).1 rfl
        ·cases hmem
      ·rw [qX6 fun r' h' => hmem ⟨r', h'⟩] at hr
       have := qE0 (p := rn) hapM (by rw [List.getElem?_map, g1]; rfl) (ls' := fun j => (listed.setIfInBounds i true).getD j false) (ls := fun j => listed.getD j false) (by simp [hget]) (fun j hj => by simp [hget, hj]) (hF1 (fun j => (listed.setIfInBounds i true).getD j false) t r hr)
       by_cases hrn : ∃ r', (t, r') ∈ rn
       ·obtain ⟨r', hrn⟩ := hrn
        obtain ⟨r2, h2⟩ := lkA_of hrn
        rw [qD2 h2] at this ⊢
        exact this
       ·rw [qX6 fun r' h' => hrn ⟨r', h'⟩] at this ⊢
        rw [qX6 fun r' h' => hmem ⟨r', h'⟩]
        exact hF2 (fun j => listed.getD j false) t r (fun hc => hF3 (fun j => (listed.setIfInBounds i true).getD j false) t r (by show (listed.setIfInBounds i true).getD c false = true; rw [hget, if_neg (Ne.symm hic)]; exact hc) hr) this
 refine main ops.size (Array.replicate ops.size false) o h tm w.drew (by simp) (fun j _ => by simp [Array.getD_eq_getD_getElem?, Array.getElem?_replicate]; split <;> rfl) ?_ ?_ ?_ (Ext.drew o w)
 ·have : ∀ n, cntU (fun j => (Array.replicate ops.size false).getD j false) n ≤ n := by
   intro n
   induction n with
   | zero => exact Nat.le_refl _
   | succ n ih => simp only [cntU]; split <;> omega
  have := this n
  omega
 ·intro i oi hoi hli
  simp [Array.getD_eq_getD_getElem?, Array.getElem?_replicate] at hli
  split at hli <;> cases hli
 ·have hs' := hs.drew
  have hno : ∀ j, (fun j => (Array.replicate ops.size false).getD j false) j = false := fun j => by
   simp [Array.getD_eq_getD_getElem?, Array.getElem?_replicate]
   split <;> rfl
  have hno' := hno s
  simp only at hno'
  have hc0 := hno c
  simp only at hc0
  have e1 : SL (fun j => (Array.replicate ops.size false).getD j false) = A.sl := by simp only [SL]; rw [pickL_none hno]; rfl
  have e2 : RS (fun j => (Array.replicate ops.size false).getD j false) = A.rs := by simp only [RS, CL, hno', hc0]; rw [pickL_none hno]; rfl
  rw [e1, e2]
  exact hs'
theorem KW.goDW {k k' : List K} {e : Exit} (hl : qJ1 P lay) (hT : FnsOk P fns) (hm : P.follows .mixedOrders = true) (f : Nat) {id : Nat} {ops : Array Oper} {φ ψ : Prop} (h : run2 lay fns f k e A True = (.code (.region id ops true) :: k', .normal, A', φ)) (n s i0 c i1 kp : Nat) (hsz0 : Nat.blt n ops.size = true) (hdep : depOk ops = true) (htl : tailsOk ops n = true) (hat : (match lk A'.rs i0 with | some _ => true | none => layBefore ops s i0 n) = true) (hst : specB ops A'.rs n s i0 c i1 = true)
  {prs : List Ent} {sp : List (Nat × Res)} (hg : drawW lay fns ops A'.rs (qA8 i0 A'.rs) A'.n s i0 c i1 kp (takeN n ops.toList) 0 A'.sl [] [] True = some (prs, sp, ψ)) (hfr : freshV1 ops prs sp A' s i0 0 prs = true) (hφ : φ) (hψ : ψ)
  (hn : KW P (.ops ops (dropN n ops.toList) :: k') .normal ⟨A'.n, qV1 prs ++ A'.sl, sp ++ (qA8 i1 (memE prs) ++ A'.rs)⟩ Q) : KW P k e A Q :=
 KW.go hl hT f h hφ (KW.drawnW hl hT hm s i0 c i1 kp hsz0 hdep htl hat hst hg hfr hψ hn)
end
end Go.Sy
end
