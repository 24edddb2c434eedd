/-
 RpX, TopA, TopB, TopT, TopF, TopR, TopX, TopP, TopZ, one text.
-/
import Derived.Test.YtgoilpfpmbjegaaGreatDoorKbg
import Derived.ProofKit
import Derived.OpenShut
import Derived.ShutString
import Derived.ChangeOld
import Derived.Below
import Derived.Deep.Strs
import Derived.Test.YtgoilpfpmbjegaaGreatDoorProg
import Derived.KernelRfl
import Derived.Test.YtgoilpfpmbjegaaGreatDoorRows
import Derived.HandedShaped
import Derived.LaidSub
import Derived.MakeChecks
import Derived.Shelf.Vars
import Derived.Lib.LaidTab
set_option linter.unusedSectionVars false
set_option linter.unusedVariables false
set_option linter.unusedSimpArgs false
section
attribute [local instance] Go.Sy.drwNo
namespace Go.Proofs.YtgoilpfpmbjegaaGreatDoor
open Go.Sy Go.Pu Go.Proofs.YtgoilpfpmbjegaaGreatDoor.Tr
theorem casE_of {f : FormP} {x : CasP} {n : Nat} (ok : CasOk f x n) : casE f x = 0 := by
 have hst := (inN_iff ok.n24).1 ok.st
 have h1 : (decide (0 ≤ x.state) && decide (x.state < qW0 1 f.vars)) = true := by
  rw [ok.vars, qC4, decide_eq_true hst.1, decide_eq_true hst.2]; rfl
 have h2 : (x.cost.length : Int) = f.vars := by rw [ok.len, ok.vars]
 have h3 : x.cost.all (fun c => decide (0 ≤ c) && decide (c ≤ 1048576)) = true := List.all_eq_true.2 fun c hc => by
  obtain ⟨i, hi, rfl⟩ := List.getElem_of_mem hc
  have := ok.cost i
  rw [cst, List.getD_eq_getElem?_getD, List.getElem?_eq_getElem hi, Option.getD_some] at this
  rw [decide_eq_true this.1, decide_eq_true this.2]; rfl
 rw [casE, if_pos ok.pe, if_pos h1, if_pos h2, if_pos h3]
theorem cheV_zero {f : FormP} {x : CasP} {n : Nat} (ok : CasOk f x n) (h : posE f = 0) : cheV f x = ((rsV f x).best, (rsV f x).total, 0) := by rw [cheV, if_pos (casE_of ok), if_pos h]
theorem cheV_17 {f : FormP} {x : CasP} {n : Nat} (ok : CasOk f x n) (h : posE f ≠ 0) : cheV f x = (0, 0, 17) := by rw [cheV, if_pos (casE_of ok), if_neg h, pos_17 h]
def worseX (x : CasP) (i : Nat) : CasP := ⟨ior .i64 x.state (qW0 1 (i : Int)), x.cost⟩
def dearX (x : CasP) (i : Nat) (b : Int) : CasP := ⟨x.state, x.cost.set i (min (x.cost.getD i 0 + b) 1048576)⟩
theorem worse_ok {f : FormP} {x : CasP} {n : Nat} (ok : CasOk f x n) {i : Nat} (hi : i < n) : CasOk f (worseX x i) n /\ Part x.state (worseX x i).state :=
 ⟨⟨ok.vars, ok.ok, ok.coh, ok.n24, inN_ior ok.n24 ok.st (inN_one' ok.n24 hi), ok.len, ok.cost, ok.pe⟩, fun j hj => by
   show bit (ior .i64 x.state _) j = true
   rw [qK1, hj]; rfl⟩
theorem dear_cst {x : CasP} {i : Nat} (hi : i < x.cost.length) (b : Int) (j : Nat) : cst (dearX x i b) j = if j = i then min (cst x i + b) 1048576 else cst x j := by
 show (x.cost.set i _).getD j 0 = _
 rw [List.getD_eq_getElem?_getD, List.getElem?_set]
 by_cases h : j = i
 ·subst h
  rw [if_pos rfl, if_pos hi, if_pos rfl]; rfl
 ·rw [if_neg (fun e => h e.symm), if_neg h]
  rw [cst, List.getD_eq_getElem?_getD]
theorem dear_ok {f : FormP} {x : CasP} {n : Nat} (ok : CasOk f x n) {i : Nat} (hi : i < n) {b : Int} (hb : 0 ≤ b) : CasOk f (dearX x i b) n :=
 ⟨ok.vars, ok.ok, ok.coh, ok.n24, ok.st, by show (x.cost.set i _).length = n; rw [List.length_set]; exact ok.len, fun j => by
  rw [dear_cst (by rw [ok.len]; exact hi)]
  have h1 := ok.cost i
  have h2 := ok.cost j
  split
  ·omega
  ·exact h2, ok.pe⟩
theorem more_facts {f : FormP} {x : CasP} {n : Nat} (ok : CasOk f x n) {i : Nat} (hi : i < n) {b : Int} (hb : 0 ≤ b) (h0 : posE f = 0) :
  (rsV f x).total ≤ (rsV f (worseX x i)).total /\ (rsV f x).total ≤ (rsV f (dearX x i b)).total /\ (rsV f (dearX x i b)).total ≤ (rsV f x).total + b /\ 0 ≤ (rsV f x).total /\ (rsV f x).total ≤ 25165824 := by
 have hlen : i < x.cost.length := by rw [ok.len]; exact hi
 obtain ⟨w1, w2⟩ := worse_ok ok hi
 have d1 := dear_ok ok hi hb
 have hc := ok.cost
 obtain ⟨g1, g2, g3, g4⟩ := qB9 ok h0
 have hp := price_bd ok (rsV f x).best
 rw [price_sum ok g1, <-g3] at hp
 refine ⟨worse_le ok w1 rfl w2 h0, dear_le ok d1 rfl (fun j => ?_) h0, dear_most ok d1 rfl (j := i) hb (fun j hj => ?_) ?_ h0, hp.1, hp.2⟩
 ·rw [dear_cst hlen]
  split
  ·rename_i e; subst e; have := hc j; omega
  ·exact Int.le_refl _
 ·rw [dear_cst hlen, if_neg hj]
 ·rw [dear_cst hlen, if_pos rfl]
  omega
theorem dear_cv {cost : List Int} {i e : Nat} {v v' : Int} (he : e = i) (hv : v = v') (hi : i < cost.length) : CVEq (updV (catV (qZ5 []) (qZ5 cost)) e 0 [.lit (.int .i64 v)]) (qZ5 (cost.set i v')) := by
 subst he hv
 refine ⟨by simp, .inr ⟨rfl, fun e' q he' hq => ?_⟩⟩
 have hq0 : q = 0 := by omega
 subst hq0
 by_cases h : e' = e
 ·subst h
  have h1 : (Nat.beq e' e' && (Nat.ble 0 0 && Nat.blt (0 - 0) 1)) = true := by rw [Nat.beq_refl]; rfl
  show CVEq (bif (Nat.beq e' e' && (Nat.ble 0 0 && Nat.blt (0 - 0) 1)) then _ else _) _
  rw [h1]
  show Value.int _ _ = Value.int _ _
  congr 1
  rw [List.getD_eq_getElem?_getD, List.getElem?_set_self hi]; rfl
 ·have h1 : (Nat.beq e' e && (Nat.ble 0 0 && Nat.blt (0 - 0) 1)) = false := by
   cases hb : Nat.beq e' e with
   | false => rfl
   | true => exact absurd (Nat.eq_of_beq_eq_true hb) h
  show CVEq (bif (Nat.beq e' e && (Nat.ble 0 0 && Nat.blt (0 - 0) 1)) then _ else _) _
  rw [h1]
  show Value.int _ _ = Value.int _ _
  congr 1
  simp only [List.getD_eq_getElem?_getD, List.length_nil, Nat.sub_zero]
  rw [List.getElem?_set_ne (fun e2 => h e2.symm)]
def u2 (a b : Int) : EV := .ag [.lit (.int .u8 a), .lit (.int .u8 b)]
set_option maxHeartbeats 6400000 in
theorem lawRepairMore_does (f : FormP) (x : CasP) (a b : Int) (hin : FormIn f) (ha : 0 ≤ a /\ a < 256) (hb : 0 ≤ b /\ b < 256) (T T2 : Nat) : DoesF Tryz.prog 8 [.ag (qX5 f), .ag (qV3 x), u2 a b] (rs57 T T2) (sB true) [] := by
 refine DoesF.body _ Tryz.func8 rfl rfl rfl rfl ?_
 refine KW.go qQ0 R8_ok 100 rfl ?_ ?_
 ·simp only [qQ1, qQ5, qQ2, qQ8, true_and, and_true, qX2, qX0]
  simp +contextual [hin]
 simp only [qQ1, qQ2, qX2, qX0]
 cases hl : (validF f x && decide (f.vars ≠ 0)) with
 | false =>
   have hl' : validF f x = true -> f.vars = 0 := fun h => by simpa [h] using hl
   refine KW.skipD (bV true) rfl rfl (by simp; exact hl') rfl rfl ?_
   refine KW.goIf qQ0 R8_ok 100 rfl (by simp) rfl trivial (fun h => ?_) fun h => absurd h (by simp; intro h1; simp [hl' h1])
   refine KW.go qQ0 R8_ok 100 rfl (by simp) ?_
   refine KW.call0 (awake57_does T T2) (qQ9 Tryz.func10 rfl rfl) [(200, 200), (201, 201)] [] [] (.inl rfl) rfl rfl rfl rfl rfl trivial trivial rfl ⟨rfl, rfl, trivial⟩ rfl trivial rfl rfl (.inl rfl) ?_
   exact KW.goRet qQ0 R8_ok 100 rfl rfl rfl (by simp) trivial
 | true =>
   have hl1 : validF f x = true /\ ¬ f.vars = 0 := by simpa using hl
   obtain ⟨hv, hv0⟩ := hl1
   obtain ⟨_, hc0⟩ := valid_ok hv
   obtain ⟨n, ok⟩ := casE_ok hc0
   have hcb := ok.costB
   refine KW.dupG 200 300 rfl ?_
   refine KW.dupG 201 301 rfl ?_
   refine KW.call0 (awake57_does T T2) (qQ9 Tryz.func10 rfl rfl) [(200, 300), (201, 301)] [] [] (.inr ⟨9, false, _, rfl, rfl, by simp [hv, hv0]⟩) rfl rfl rfl rfl rfl trivial trivial rfl ⟨rfl, rfl, trivial⟩ rfl trivial rfl rfl (.inl rfl) ?_
   refine KW.goIf qQ0 R8_ok 100 rfl (by simp) rfl trivial (fun h => absurd h (by simp [hv, hv0])) fun h => ?_
   clear h
   obtain ⟨i, hi, ei⟩ : ∃ i : Nat, i < n /\ a.tmod f.vars = (i : Int) := by
    have hvn := ok.vars
    have h1 : 0 ≤ a.tmod f.vars := Int.tmod_nonneg _ ha.1
    have h2 : a.tmod f.vars < f.vars := Int.tmod_lt_of_pos _ (by omega)
    exact ⟨(a.tmod f.vars).toNat, by omega, by omega⟩
   have hn24 := ok.n24
   have hshl := shl_rng24 (v := (i : Int)) (by omega) (by omega)
   refine KW.goDV qQ0 R8_ok rfl 100 rfl 9 30 0 rfl (by decide +kernel) (by decide +kernel) rfl rfl rfl ?_ ?_ ?_
   ·simp [inK, hv0]
    omega
   ·rw [ei]
    simp [qC0, inK]
    omega
   have hlen := ok.len
   have hci := hcb.cost i
   have hgi : cst x i = x.cost.getD i 0 := rfl
   have hci3 : 0 ≤ x.cost[i]?.getD 0 /\ x.cost[i]?.getD 0 ≤ 1048576 := by
    rw [hgi, List.getD_eq_getElem?_getD] at hci
    exact hci
   refine KW.goDW qQ0 R8_ok rfl 100 rfl 8 5 49 99 999 49 rfl (by decide +kernel) (by decide +kernel) rfl rfl rfl rfl ?_ ?_ ?_
   ·simp
   ·simp
    omega
   refine KW.goDV qQ0 R8_ok rfl 100 rfl 13 30 0 rfl (by decide +kernel) (by decide +kernel) rfl rfl rfl ?_ ?_ ?_
   ·simp
   ·simp only [ei, inK]
    simp
    omega
   refine KW.go qQ0 R8_ok 2 rfl ?_ ?_
   ·simp only [ei]
    simp
    omega
   refine KW.frzB 9 1 52 rfl rfl rfl rfl ?_
   refine KW.convB 9 1 (qZ5 (x.cost.set i (min (x.cost.getD i 0 + b) 1048576))) rfl rfl (dear_cv (by simp only [ei]; simp) (by simp only [ei]; simp) (by omega)) ?_
   obtain ⟨w1, w2⟩ := worse_ok ok hi
   have d1 := dear_ok ok hi hb.1
   have e1 : (⟨ior .i64 x.state (qW0 1 (i : Int)), x.cost⟩ : CasP) = worseX x i := rfl
   have e2 : (⟨x.state, x.cost.set i (min (x.cost.getD i 0 + b) 1048576)⟩ : CasP) = dearX x i b := rfl
   by_cases hp : posE f = 0
   ·obtain ⟨m1, m2, m3, m4, m5⟩ := more_facts ok hi hb.1 hp
    have c0 := cheV_zero ok hp
    have c1 := cheV_zero w1 hp
    have c2 := cheV_zero d1 hp
    refine KW.goIf qQ0 R8_ok 200 rfl ?_ rfl trivial (fun h => absurd h ?_) fun h => ?_
    ·simp only [qQ1, qQ5, qQ2, qQ8, true_and, and_true, qQ7, qX2, qX0]
     simp [hin]
    ·simp only [qQ1, qQ2, qX2, qX0, ei, e1, e2, c0, c1, c2]
     simp
    clear h
    refine KW.goRet qQ0 R8_ok 200 rfl rfl ?_ ?_ trivial
    ·simp only [SV.ren, EV.ren, qQ1, qQ2, qX2, qX0, ei, e1, e2, c0, c1, c2]
     simp [m1, m2, m3]
    ·simp only [qQ1, qQ5, qQ2, qQ8, true_and, and_true, qQ7, qX2, qX0, ei, e1, e2, c0, c1, c2]
     simp +contextual [hin, inK]
     omega
   ·have c0 := cheV_17 ok hp
    have c1 := cheV_17 w1 hp
    have c2 := cheV_17 d1 hp
    refine KW.goIf qQ0 R8_ok 200 rfl ?_ rfl trivial (fun h => ?_) fun h => absurd h ?_
    ·simp only [qQ1, qQ5, qQ2, qQ8, true_and, and_true, qQ7, qX2, qX0]
     simp [hin]
    ·refine KW.goRet qQ0 R8_ok 200 rfl rfl ?_ ?_ trivial
     ·simp only [SV.ren, EV.ren, qQ1, qQ2, qX2, qX0, ei, e1, e2, c0, c1, c2]
      simp
     ·simp only [qQ1, qQ5, qQ2, qQ8, true_and, and_true, qQ7, qX2, qX0, ei, e1, e2, c0, c1, c2]
      simp +contextual [hin]
    ·simp only [qQ1, qQ2, qX2, qX0, ei, e1, e2, c0, c1, c2]
     simp
end Go.Proofs.YtgoilpfpmbjegaaGreatDoor
end
section
namespace Go.Sy
open Go.ChangeShapes Go.WideShapes Go.ChangeAt Go.RowKit
variable [Drw]
open Go.ChangeMaps (open_string shut_string)
def oldO (W : World) : Nat -> Tag := fun b => if b < W.heap.size then .sh else .no
theorem ext_below {W w' : World} {o' : Nat -> Tag} (h : Ext (oldO W) W o' w') : Below W.heap.size W w' :=
 ⟨h.os, h.tape, h.output, h.size, fun k hk => (h.sh k (by simp [oldO, hk]) hk).2⟩
section
variable {H : Type} {enc : TypeId × Value -> H} {P : Program} {W : World}
theorem addr_eta {a : Addr} {w : World} {u : Value} (h : w.cell? a = some u) : a = ⟨a.block, a.off, none⟩ /\ a.block < w.heap.size := by
 unfold World.cell? at h
 cases hb : w.heap[a.block]? with
 | none => simp [hb] at h
 | some ob =>
   have hlt : a.block < w.heap.size := by
    rcases Nat.lt_or_ge a.block w.heap.size with h' | h'
    ·exact h'
    ·simp [Array.getElem?_eq_none h'] at hb
   refine ⟨?_, hlt⟩
   cases ob with
   | cells c _ _ =>
     simp only [hb] at h
     split at h
     ·cases h
     ·rename_i hs
      obtain ⟨b, o, s⟩ := a
      cases s with
      | none => rfl
      | some _ => simp at hs
   | _ => simp [hb] at h
theorem rep_ints {a : Option Addr} {len cap : Nat} {zs : List Int} (h0 : len = 0 ∨ ∃ x, a = some x /\ len ≤ zs.length /\ (∀ i, i < zs.length -> W.cell? (x.add i) = some (.int .i64 (zs.getD i 0)))) (hl : len ≤ cap) (hm : cap ≤ maxLen) (hz : (zs.take len).length = len) :
  RepV (oldO W) W (qZ5 (zs.take len)) (.slice a len cap) := by
 refine ⟨a, cap, by rw [hz], by rw [hz]; exact hl, hm, ?_⟩
 rcases Nat.eq_zero_or_pos len with h00 | hpos
 ·exact .inl (by rw [hz]; exact h00)
 ·right
  rcases h0 with h0 | ⟨x, rfl, hlz, hc⟩
  ·omega
  ·have h1 := hc 0 (by omega)
   simp only [Addr.add, if_true] at h1
   obtain ⟨hx, hb⟩ := addr_eta h1
   refine ⟨x.block, x.off, by rw [hx], by simp [oldO, hb], fun e q he hq => ?_⟩
   have hq0 : q = 0 := by omega
   subst hq0
   rw [hz] at he
   have h2 := hc e (by omega)
   rw [hx, qB4] at h2
   refine ⟨_, by simpa using h2, ?_, rfl⟩
   simp [List.getD_eq_getElem?_getD, he]
end
end Go.Sy
namespace Go.Sy
instance drwDef : Drw := drwNo
end Go.Sy
end
section
namespace Go.Sy
open Go.ChangeShapes Go.WideShapes Go.ChangeAt Go.RowKit Go.Pu
section
variable {H : Type} {enc : TypeId × Value -> H} {P : Program} {W : World}
theorem open_row {t e : TypeId} {fuel : Nat} {cs : List Value} {x : DataW H × List MemPlace} (ht : P.underlying t = some (.slice e)) (he : P.underlying e = some (.int .i64)) (hc : P.cellsOf e = 1) (hf : DataW.trod enc P W 0 (fun _ => true) true fuel t cs = some x) :
  ∃ (v : Value) (xs : List Int), cs = [v] /\ RepV (oldO W) W (qZ5 xs) v /\ ∀ x ∈ xs, inK .i64 x := by
 rcases open_ints ht he hc hf with ⟨rfl, _⟩ | ⟨x, l, c, zs, rfl, _, hl, hm, hz, _, hcell, hwz⟩
 ·exact ⟨_, [], rfl, rep_ints (zs := []) (.inl rfl) (Nat.le_refl _) (Nat.zero_le _) rfl, by simp⟩
 ·simp only [if_true] at hz
  exact ⟨_, zs.take l, rfl, rep_ints (.inr ⟨x, rfl, by omega, hcell⟩) hl hm (by simp; omega), fun y hy => bounds_i64 (hwz y (List.mem_of_mem_take hy))⟩
theorem cell_at {cs : List Value} {o : Nat} {v : Value} (h : (cs.drop o).take 1 = [v]) : cs[o]? = some v := by
 have e := congrArg (fun l : List Value => l[0]?) h
 simpa [List.getElem?_take, List.getElem?_drop] using e
structure NodeLay (P : Program) (tn : TypeId) : Prop where
 lay : ∃ f0 f1 f2 e, P.underlying tn = some (.struct #[f0, f1, f2]) /\ (f0.offset = 0 /\ f1.offset = 1 /\ f2.offset = 2) /\ P.underlying f0.type = some (.int .i64) /\ P.underlying f1.type = some (.int .i64) /\ P.underlying f2.type = some (.slice e) /\ P.underlying e = some (.int .i64) /\
  (P.cellsOf tn = 3 /\ P.cellsOf f0.type = 1 /\ P.cellsOf f1.type = 1 /\ P.cellsOf f2.type = 1 /\ P.cellsOf e = 1)
structure FormLay (P : Program) (t : TypeId) : Prop where
 lay : ∃ g0 g1 g2 tn, P.underlying t = some (.struct #[g0, g1, g2]) /\ (g0.offset = 0 /\ g1.offset = 1 /\ g2.offset = 2) /\ P.underlying g0.type = some (.int .i64) /\ P.underlying g1.type = some (.slice tn) /\ P.underlying g2.type = some (.int .i64) /\
  (P.cellsOf t = 3 /\ P.cellsOf g0.type = 1 /\ P.cellsOf g1.type = 1 /\ P.cellsOf g2.type = 1) /\ NodeLay P tn
theorem open_node {tn : TypeId} (L : NodeLay P tn) {fuel : Nat} {cs : List Value} {y : DataW H × List MemPlace} (h : DataW.trod enc P W 0 (fun _ => true) true fuel tn cs = some y) :
  ∃ x : NodeP, NodeIn x /\ ∀ q, q < 3 -> ∃ u, cs[q]? = some u /\ RepV (oldO W) W (nodeC x q) u := by
 obtain ⟨f0, f1, f2, e, hn, ⟨o0, o1, o2⟩, h0, h1, h2, he, c, c0, c1, c2, ce⟩ := L.lay
 obtain ⟨y0, y1, y2, n, _, hl, t0, t1, t2⟩ := Go.Deep.trod_struct3 hn h
 rw [o0, c0] at t0
 rw [o1, c1] at t1
 rw [o2, c2] at t2
 obtain ⟨a, ha, _, wa⟩ := DataW.trod_int h0 t0
 obtain ⟨b, hb, _, wb⟩ := DataW.trod_int h1 t1
 obtain ⟨v, xs, hv, hr, hin⟩ := open_row h2 he ce t2
 refine ⟨⟨a, b, xs⟩, ⟨bounds_i64 wa, bounds_i64 wb, hin⟩, fun q hq => ?_⟩
 match q, hq with
 | 0, _ => exact ⟨_, cell_at ha, rfl, rfl⟩
 | 1, _ => exact ⟨_, cell_at hb, rfl, rfl⟩
 | 2, _ => exact ⟨_, cell_at hv, hr⟩
theorem op_form {t : TypeId} {v : Value} {d : DataW H} {ps : List MemPlace} (L : FormLay P t) (hval : Value.okWide P W .any 0 t v) (hd : DataW.Trod enc P W 0 (fun _ => true) true t v d ps) :
  ∃ f : FormP, FormIn f /\ EvOk (oldO W) (fun _ => undef) W (.ag (qX5 f)) v := by
 obtain ⟨g0, g1, g2, tn, ht, ⟨o0, o1, o2⟩, h0, h1, h2, ⟨c, c0, c1, c2⟩, LN⟩ := L.lay
 have hv : ∃ cs, v = .agg cs /\ cs.size = P.cellsOf t /\ Row.okWide P W .any 0 t cs := by
  unfold Value.okWide at hval
  rw [ht] at hval
  exact hval
 obtain ⟨cs, rfl, hsz, _⟩ := hv
 obtain ⟨fuel, hf⟩ := hd
 obtain ⟨y0, y1, y2, n, _, hl, t0, t1, t2⟩ := Go.Deep.trod_struct3 ht hf
 simp only [Value.cells] at t0 t1 t2
 rw [o0, c0] at t0
 rw [o1, c1] at t1
 rw [o2, c2] at t2
 obtain ⟨a, ha, _, wa⟩ := DataW.trod_int h0 t0
 obtain ⟨b, hb, _, wb⟩ := DataW.trod_int h2 t2
 have hnodes : ∃ (u : Value) (ns : List NodeP), (cs.toList.drop 1).take 1 = [u] /\ RepV (oldO W) W (qJ9 ns) u /\ ∀ x ∈ ns, NodeIn x := by
  obtain ⟨_, _, _, _, _, _, _, _, _, _, c3, _⟩ := LN.lay
  rcases DataW.trod_slice h1 t1 with ⟨e, _⟩ | ⟨ad, len, cap, elems, rest, m, _, e, _, _, hlc, hm, hlen, hel, _, _⟩
  ·exact ⟨_, [], e, ⟨none, 0, rfl, Nat.le_refl _, Nat.zero_le _, .inl rfl⟩, by simp⟩
  ·have each : ∀ i, i < len -> ∃ x : NodeP, NodeIn x /\ ∀ q, q < 3 -> ∃ u, W.cell? (ad.add (i * 3 + q)) = some u /\ RepV (oldO W) W (nodeC x q) u := fun i hi => by
    have h3 := hel i hi
    rw [List.getElem?_eq_getElem (by omega), Option.bind_eq_some_iff] at h3
    obtain ⟨c', hc', hy'⟩ := h3
    obtain ⟨x, hx, hq⟩ := open_node LN hy'
    obtain ⟨_, hcl, hcc⟩ := World.cells?_some hc'
    refine ⟨x, hx, fun q hq3 => ?_⟩
    obtain ⟨u, hu, hr⟩ := hq q hq3
    refine ⟨u, ?_, hr⟩
    have h4 := hcc q (by omega)
    rw [hu] at h4
    have h5 : (ad.add (i * P.cellsOf tn)).add q = ad.add (i * 3 + q) := by
     rw [c3]
     unfold Addr.add
     split <;> split <;> simp_all <;> omega
    rw [h5] at h4
    exact h4
   have hch : ∃ g : Nat -> NodeP, ∀ i, i < len -> NodeIn (g i) /\ ∀ q, q < 3 -> ∃ u, W.cell? (ad.add (i * 3 + q)) = some u /\ RepV (oldO W) W (nodeC (g i) q) u :=
    ⟨fun i => if h : i < len then Classical.choose (each i h) else qX1, fun i hi => by
     simp only [hi, dif_pos]
     exact Classical.choose_spec (each i hi)⟩
   obtain ⟨g, hg⟩ := hch
   refine ⟨_, (List.range len).map g, e, ?_, fun x hx => ?_⟩
   ·refine ⟨some ad, cap, by simp, by simpa using hlc, hm, ?_⟩
    rcases Nat.eq_zero_or_pos len with h00 | hpos
    ·left; simpa using h00
    ·right
     obtain ⟨u0, hu0, _⟩ := (hg 0 hpos).2 0 (by decide)
     have e0 : ad.add (0 * 3 + 0) = ad := by unfold Addr.add; split <;> simp_all
     rw [e0] at hu0
     obtain ⟨hx, hb'⟩ := addr_eta hu0
     refine ⟨ad.block, ad.off, by rw [hx], by simp [oldO, hb'], fun e q he hq => ?_⟩
     have he' : e < len := by simpa using he
     obtain ⟨u, hu, hr⟩ := (hg e he').2 q hq
     rw [hx, qB4] at hu
     refine ⟨u, hu, ?_⟩
     have e2 : ((List.range len).map g).getD e qX1 = g e := by simp [List.getD_eq_getElem?_getD, he']
     show RepV (oldO W) W (nodeC (((List.range len).map g).getD e qX1) q) u
     rw [e2]; exact hr
   ·obtain ⟨i, hi, rfl⟩ := List.mem_map.1 hx
    exact (hg i (by simpa using hi)).1
 obtain ⟨u, ns, hu, hr, hin⟩ := hnodes
 refine ⟨⟨a, ns, b⟩, ⟨bounds_i64 wa, bounds_i64 wb, hin⟩, cs, rfl, hsz.trans c, fun q x hq => ?_⟩
 have g0' := cell_at ha
 have g1' := cell_at hu
 have g2' := cell_at hb
 rw [Array.getElem?_toList] at g0' g1' g2'
 match q, hq with
 | 0, hq => simp [qX5] at hq; subst hq; exact ⟨_, g0', rfl, rfl⟩
 | 1, hq => simp [qX5] at hq; subst hq; exact ⟨_, g1', hr⟩
 | 2, hq => simp [qX5] at hq; subst hq; exact ⟨_, g2', rfl, rfl⟩
 | q + 3, hq => simp [qX5] at hq
end
end Go.Sy
end
section
namespace Go.Sy
open Go.ChangeShapes Go.WideShapes Go.ChangeAt Go.RowKit Go.Pu
section
variable {H : Type} {enc : TypeId × Value -> H} {P : Program} {W : World}
theorem cells_st {t : TypeId} {fs : Array Field} {v : Value} (ht : P.underlying t = some (.struct fs)) (hval : Value.okWide P W .any 0 t v) : ∃ cs, v = .agg cs /\ cs.size = P.cellsOf t := by
 unfold Value.okWide at hval
 rw [ht] at hval
 obtain ⟨cs, h1, h2, _⟩ := hval
 exact ⟨cs, h1, h2⟩
end
end Go.Sy
end
section
namespace Go.Proofs.YtgoilpfpmbjegaaGreatDoor
open Go.Sy
theorem nodeLay : NodeLay Tryz.prog 65 := ⟨⟨_, _, _, _, Tryz.underlying65, ⟨rfl, rfl, rfl⟩, Tryz.underlying3, Tryz.underlying3, Tryz.underlying25, Tryz.underlying3, ⟨by kernel_rfl, by kernel_rfl, by kernel_rfl, by kernel_rfl, by kernel_rfl⟩⟩⟩
theorem formLay : FormLay Tryz.prog 24 := ⟨⟨_, _, _, _, Tryz.underlying24, ⟨rfl, rfl, rfl⟩, Tryz.underlying3, Tryz.underlying22, Tryz.underlying3, ⟨by kernel_rfl, by kernel_rfl, by kernel_rfl, by kernel_rfl⟩, nodeLay⟩⟩
end Go.Proofs.YtgoilpfpmbjegaaGreatDoor
end
section
namespace Go.Proofs.YtgoilpfpmbjegaaGreatDoor
open Go.Sy Go.ChangeShapes Go.WideShapes Go.ChangeAt Go.RowKit Go.Pu
section
variable {H : Type} {enc : TypeId × Value -> H} {P : Program} {W : World}
theorem trod_st2 {t : TypeId} {f0 f1 : Field} {fuel : Nat} {cs : List Value} {x : DataW H × List MemPlace} (ht : P.underlying t = some (.struct #[f0, f1])) (h : DataW.trod enc P W 0 (fun _ => true) true fuel t cs = some x) :
  ∃ y0 y1 n, fuel = n + 1 /\ cs.length = P.cellsOf t /\ DataW.trod enc P W 0 (fun _ => true) true n f0.type ((cs.drop f0.offset).take (P.cellsOf f0.type)) = some y0 /\
    DataW.trod enc P W 0 (fun _ => true) true n f1.type ((cs.drop f1.offset).take (P.cellsOf f1.type)) = some y1 := by
 obtain ⟨xs, n, e, _, hl, hlen, hf⟩ := DataW.trod_struct ht h
 match xs, hlen with
 | [y0, y1], _ => exact ⟨y0, y1, n, e, hl, by simpa using hf 0 f0 rfl, by simpa using hf 1 f1 rfl⟩
structure CaseLay (P : Program) (t : TypeId) : Prop where
 lay : ∃ g0 g1 e, P.underlying t = some (.struct #[g0, g1]) /\ (g0.offset = 0 /\ g1.offset = 1) /\ P.underlying g0.type = some (.int .i64) /\ P.underlying g1.type = some (.slice e) /\ P.underlying e = some (.int .i64) /\
  (P.cellsOf t = 2 /\ P.cellsOf g0.type = 1 /\ P.cellsOf g1.type = 1 /\ P.cellsOf e = 1)
theorem op_case {t : TypeId} {v : Value} {d : DataW H} {ps : List MemPlace} (L : CaseLay P t) (hval : Value.okWide P W .any 0 t v) (hd : DataW.Trod enc P W 0 (fun _ => true) true t v d ps) :
  ∃ c : CasP, inK .i64 c.state /\ EvOk (oldO W) (fun _ => undef) W (.ag (qV3 c)) v := by
 obtain ⟨g0, g1, e, ht, ⟨o0, o1⟩, h0, h1, he, ⟨c, c0, c1, ce⟩⟩ := L.lay
 obtain ⟨cs, rfl, hsz⟩ := cells_st ht hval
 obtain ⟨fuel, hf⟩ := hd
 obtain ⟨y0, y1, n, _, hl, t0, t1⟩ := trod_st2 ht hf
 simp only [Value.cells] at t0 t1
 rw [o0, c0] at t0
 rw [o1, c1] at t1
 obtain ⟨a, ha, _, wa⟩ := DataW.trod_int h0 t0
 obtain ⟨u, xs, hu, hr, hin⟩ := open_row h1 he ce t1
 have g0' := cell_at ha
 have g1' := cell_at hu
 rw [Array.getElem?_toList] at g0' g1'
 refine ⟨⟨a, xs⟩, bounds_i64 wa, cs, rfl, hsz.trans c, fun q y hq => ?_⟩
 match q, hq with
 | 0, hq => simp [qV3] at hq; subst hq; exact ⟨_, g0', rfl, rfl⟩
 | 1, hq => simp [qV3] at hq; subst hq; exact ⟨_, g1', hr⟩
 | q + 2, hq => simp [qV3] at hq
theorem op_u2 {t e : TypeId} {v : Value} {d : DataW H} {ps : List MemPlace} (ht : P.underlying t = some (.array 2 e)) (he : P.underlying e = some (.int .u8)) (hc : P.cellsOf e = 1) (hc' : P.cellsOf t = 2) (hval : Value.okWide P W .any 0 t v) (hd : DataW.Trod enc P W 0 (fun _ => true) true t v d ps) :
  ∃ a b : Int, ((0 ≤ a /\ a < 256) /\ (0 ≤ b /\ b < 256)) /\ v = .agg #[.int .u8 a, .int .u8 b] := by
 have h1 : ∃ cs, v = .agg cs /\ cs.size = P.cellsOf t /\ Row.okWide P W .any 0 t cs := by
  unfold Value.okWide at hval
  rw [ht] at hval
  exact hval
 obtain ⟨cs, rfl, hsz, _⟩ := h1
 obtain ⟨fuel, hf⟩ := hd
 obtain ⟨xs, m, rfl, _, hlen, hxl, hx⟩ := DataW.trod_array ht hf
 simp only [Value.cells] at hx
 rw [hc] at hx
 rw [hc'] at hsz
 match cs, hsz with
 | ⟨[u, u']⟩, _ =>
   match xs, hxl with
   | [x, x'], _ =>
     obtain ⟨n, h1, _, w1⟩ := DataW.trod_int he (hx 0 (by decide))
     obtain ⟨n', h1', _, w1'⟩ := DataW.trod_int he (hx 1 (by decide))
     simp at h1 h1'
     have b1 := bounds_u8 w1
     have b2 := bounds_u8 w1'
     exact ⟨n, n', ⟨by omega, by omega⟩, by rw [h1, h1']⟩
theorem ag2u {o : Nat -> Tag} {w : World} (a b : Int) : ∀ (q : Nat) x, [(CV.lit (.int .u8 a)), .lit (.int .u8 b)][q]? = some x -> ∃ u, (#[Value.int .u8 a, .int .u8 b] : Array Value)[q]? = some u /\ RepV o w x u := by
 intro q x hq
 match q, hq with
 | 0, hq => simp at hq; subst hq; exact ⟨_, rfl, rfl, rfl⟩
 | 1, hq => simp at hq; subst hq; exact ⟨_, rfl, rfl, rfl⟩
end
theorem caseLay : CaseLay Tryz.prog 27 := ⟨⟨_, _, _, Tryz.underlying27, ⟨rfl, rfl⟩, Tryz.underlying3, Tryz.underlying25, Tryz.underlying3, ⟨by kernel_rfl, by kernel_rfl, by kernel_rfl, by kernel_rfl⟩⟩⟩
end Go.Proofs.YtgoilpfpmbjegaaGreatDoor
end
section
attribute [local instance] Go.Sy.drwNo
namespace Go.Proofs.YtgoilpfpmbjegaaGreatDoor
open Go.Sy Go.ChangeShapes Go.WideShapes Go.ChangeAt Go.RowKit
theorem walk_glos {P : Program} {f : FuncId} {ys : List EV} {rs : List (Nat × Res)} {args : Array Value} {W : World} (hg : ∀ i r, lk rs i = some r -> ∃ g T vs, r = .glo g T vs /\ W.heap[g]? = some (.cells vs.toArray T (0, 0))) (D : DoesF P f ys rs (sB true) []) (hsz : args.size = ys.length)
  (ha : ∀ (j : Nat) y, ys[j]? = some y -> EvOk (oldO W) (fun _ => undef) W y (args.getD j undef)) : Calls P f args W fun e w' => e = .returned (.bool true) /\ Below W.heap.size W w' := by
 refine (D (oldO W) (fun _ => undef) args W ⟨hsz, fun b => ⟨fun i h => ?_, fun h => ?_⟩, fun s x hl => ?_, fun i r hl => ?_⟩).mono ?_
 ·simp only [oldO] at h; split at h <;> cases h
 ·simp only [oldO] at h; split at h
  ·assumption
  ·cases h
 ·obtain ⟨_, _, y, hy, rfl⟩ := idx_lt ys 0 s x hl
  exact ha s y (by simpa using hy)
 ·obtain ⟨g, T, vs, rfl, h1⟩ := hg i r hl
  have hlt : g < W.heap.size := by
   refine Classical.byContradiction fun h => ?_
   rw [Array.getElem?_eq_none (by omega)] at h1; cases h1
  exact ⟨by simp only [oldO, if_pos hlt], h1⟩
 ·rintro e w' ⟨v, o', h', rfl, hs, hx⟩
  have hv : RepV o' w' (.lit (.bool true)) v := hs.slot 0 (sB true) (by rw [qQ3, if_pos rfl])
  exact ⟨by rw [hv.1], ext_below hx⟩
theorem glo1 {W : World} {i g T : Nat} {vs : List Value} (h : W.heap[g]? = some (.cells vs.toArray T (0, 0))) : ∀ j r, lk [(i, Res.glo g T vs)] j = some r -> ∃ g T vs, r = Res.glo g T vs /\ W.heap[g]? = some (.cells vs.toArray T (0, 0)) := fun j r hl => by
 rw [qQ3] at hl
 split at hl
 ·cases hl; exact ⟨_, _, _, rfl, h⟩
 ·simp [lk] at hl
theorem glo2 {W : World} {i g T i' g' T' : Nat} {vs vs' : List Value} (h : W.heap[g]? = some (.cells vs.toArray T (0, 0))) (h' : W.heap[g']? = some (.cells vs'.toArray T' (0, 0))) : ∀ j r, lk [(i, Res.glo g T vs), (i', Res.glo g' T' vs')] j = some r -> ∃ g T vs, r = Res.glo g T vs /\ W.heap[g]? = some (.cells vs.toArray T (0, 0)) := fun j r hl => by
 rw [qQ3] at hl
 split at hl
 ·cases hl; exact ⟨_, _, _, rfl, h⟩
 ·exact glo1 h' j r hl
end Go.Proofs.YtgoilpfpmbjegaaGreatDoor
end
section
attribute [local instance] Go.Sy.drwNo
namespace Go.Proofs.YtgoilpfpmbjegaaGreatDoor
open Go.Sy Go.Pu Go.ChangeShapes Go.WideShapes Go.ChangeAt Go.RowKit Go.Proofs.YtgoilpfpmbjegaaGreatDoor.Tr
theorem pow_laid {l : List (String × DataW Unit)} {W : World} (e : (l.filter fun x => x.1 == "internal/strconv.uint64pow10") = [("internal/strconv.uint64pow10", Lib.tabData .u64 Lib.pow10Tab)]) (h : laidMetH Tryz.prog l W) : ∃ T, W.heap[2]? = some (.cells powVs.toArray T (0, 0)) := by
 have h1 := h.filter fun x => x.1 == "internal/strconv.uint64pow10"
 rw [e, MakeChecks.laidMetH_plain _ _ _ (by kernel_rfl)] at h1
 have hg1 : Tryz.prog.globalNamed "internal/strconv.uint64pow10" = some 2 := by kernel_rfl
 have ht := Lib.tabIs_of_head (g := 2) (t := 177) (e := 158) (n := 20) hg1 (by kernel_rfl) (by kernel_rfl) (by kernel_rfl) (by kernel_rfl) (by kernel_rfl) h1
 obtain ⟨ps, ⟨g, t, cs, fuel, p, q, hg, hty, hv, hd, _, rfl⟩, _, hcell⟩ := h1
 obtain rfl := Option.some.inj (hg1.symm.trans hg)
 unfold Lib.TabIs at ht
 obtain rfl := Option.some.inj (hv.symm.trans ht)
 have hm := (hcell 2 0 (List.mem_append_left _ (List.mem_append_left _ (by simp [MemPlace.row]; decide)))).1
 obtain ⟨c, t', hc⟩ := hm
 have hv2 := hv
 unfold World.var? at hv2
 rw [hg1] at hv2
 simp only [Option.bind_some, hc, Option.some.injEq] at hv2
 refine ⟨t', ?_⟩
 rw [hc, hv2, powVs]
end Go.Proofs.YtgoilpfpmbjegaaGreatDoor
end
section
attribute [local instance] Go.Sy.drwNo
namespace Go.Proofs.YtgoilpfpmbjegaaGreatDoor
open Go.Sy Go.Pu Go.ChangeShapes Go.WideShapes Go.ChangeAt Go.RowKit
theorem bit_laid {l : List (String × DataW Unit)} {W : World} (e : (l.filter fun x => x.1 == "math/bits.deBruijn64tab") = [("math/bits.deBruijn64tab", Lib.tabData .u8 (Lib.deBruijn64tab.map fun n : Nat => (n : Int)))]) (h : laidMetH Tryz.prog l W) : ∃ T, W.heap[1]? = some (.cells tabVs.toArray T (0, 0)) := by
 have h1 := h.filter fun x => x.1 == "math/bits.deBruijn64tab"
 rw [e, MakeChecks.laidMetH_plain _ _ _ (by kernel_rfl)] at h1
 have hg1 : Tryz.prog.globalNamed "math/bits.deBruijn64tab" = some 1 := by kernel_rfl
 have ht := Lib.tabIs_of_head (g := 1) (t := 169) (e := 5) (n := 64) hg1 (by kernel_rfl) (by kernel_rfl) (by kernel_rfl) (by kernel_rfl) (by kernel_rfl) h1
 obtain ⟨ps, ⟨g, t, cs, fuel, p, q, hg, hty, hv, hd, _, rfl⟩, _, hcell⟩ := h1
 obtain rfl := Option.some.inj (hg1.symm.trans hg)
 unfold Lib.TabIs at ht
 obtain rfl := Option.some.inj (hv.symm.trans ht)
 have hm := (hcell 1 0 (List.mem_append_left _ (List.mem_append_left _ (by simp [MemPlace.row]; decide)))).1
 obtain ⟨c, t', hc⟩ := hm
 have hv2 := hv
 unfold World.var? at hv2
 rw [hg1] at hv2
 simp only [Option.bind_some, hc, Option.some.injEq] at hv2
 refine ⟨t', ?_⟩
 rw [hc, hv2, tabVs, List.map_map]
 rfl
end Go.Proofs.YtgoilpfpmbjegaaGreatDoor
end
