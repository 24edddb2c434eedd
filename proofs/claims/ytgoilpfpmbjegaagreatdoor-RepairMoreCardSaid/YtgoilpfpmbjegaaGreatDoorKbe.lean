/-
 PuP, FqA, FqE, FqI, FqJ, FmK, FqK, FqL, PuQ, FqM, TrA, TrB, TrD, PuV, PuW, PuX, PuY, one text.
-/
import Derived.Test.YtgoilpfpmbjegaaGreatDoorKbd
set_option linter.unusedSectionVars false
set_option linter.unusedVariables false
set_option linter.unusedSimpArgs false
section
namespace Go.Pu
open Go.Sy
variable [Drw]
abbrev LS := List Int
def qX8 (a b : LS) : LS × Int := if qY0 a b = 0 then (limL (minS (a ++ b)), limE (minS (a ++ b))) else ([], qY0 a b)
def qJ7 (a b : LS) : LS × Int := if qY0 a b = 0 then (limL (minS (unionsC a b)), limE (minS (unionsC a b))) else ([], qY0 a b)
theorem listE_val {l : LS} (h : qV0 l = 0) : Val l /\ l.length ≤ 1024 := by
 unfold qV0 at h
 split at h
 ·cases h
 ·split at h
  ·rename_i h1 h2; exact ⟨fun x hx => (List.all_eq_true.1 h2) x hx, by omega⟩
  ·cases h
theorem bothE_val {a b : LS} (h : qY0 a b = 0) : (Val a /\ a.length ≤ 1024) /\ (Val b /\ b.length ≤ 1024) := by
 unfold qY0 at h
 split at h
 ·rename_i h1; exact ⟨listE_val h1, listE_val h⟩
 ·rename_i h1; exact absurd h h1
theorem plus_ref (a b : LS) : qX8 a b = if qY0 a b = 0 then (limL (qB6 (a ++ b)), limE (qB6 (a ++ b))) else ([], qY0 a b) := by
 unfold qX8
 split
 ·rename_i h
  obtain ⟨⟨ha, _⟩, hb, _⟩ := bothE_val h
  rw [minS_eq (ha.append hb)]
 ·rfl
theorem prod_ref (a b : LS) : qJ7 a b = if qY0 a b = 0 then (limL (qB6 (unionsL a b)), limE (qB6 (unionsL a b))) else ([], qY0 a b) := by
 unfold qJ7
 split
 ·rename_i h
  obtain ⟨⟨ha, _⟩, hb, _⟩ := bothE_val h
  rw [minS_unionsC ha hb, minS_eq (ha.unionsL hb)]
 ·rfl
theorem plus_fam {a b : LS} (h : (qX8 a b).2 = 0) : Fam (qX8 a b).1 := by
 unfold qX8 at h ⊢
 split at h
 ·rename_i hb
  rw [if_pos hb]
  obtain ⟨⟨ha, _⟩, hb', _⟩ := bothE_val hb
  obtain ⟨h1, h2⟩ := limL_zero h
  simp only [h1]
  exact ⟨(ha.append hb').minS, h2, (anti_min (ha.append hb')).2.1⟩
 ·rename_i hb; exact absurd h hb
theorem prod_fam {a b : LS} (h : (qJ7 a b).2 = 0) : Fam (qJ7 a b).1 := by
 unfold qJ7 at h ⊢
 split at h
 ·rename_i hb
  rw [if_pos hb]
  obtain ⟨⟨ha, _⟩, hb', _⟩ := bothE_val hb
  obtain ⟨h1, h2⟩ := limL_zero h
  simp only [h1]
  exact ⟨(ha.unionsC hb').minS, h2, (anti_min (ha.unionsC hb')).2.1⟩
 ·rename_i hb; exact absurd h hb
def qB1 (op : LS -> LS -> LS × Int) : List LS -> LS -> LS × Int
 | [], acc => (acc, 0)
 | r :: rs, acc => if (op acc r).2 = 0 then qB1 op rs (op acc r).1 else ([], (op acc r).2)
def voteJ (row : LS) : Nat -> List LS -> List LS × Int
 | 0, tab => (tab, 0)
 | j + 1, tab => if (qJ7 (tab.getD j []) row).2 = 0 then
     if (qX8 (tab.getD (j + 1) []) (qJ7 (tab.getD j []) row).1).2 = 0 then voteJ row j (tab.set (j + 1) (qX8 (tab.getD (j + 1) []) (qJ7 (tab.getD j []) row).1).1)
     else ([], (qX8 (tab.getD (j + 1) []) (qJ7 (tab.getD j []) row).1).2)
  else ([], (qJ7 (tab.getD j []) row).2)
def voteR (k : Nat) : List LS -> List LS -> List LS × Int
 | [], tab => (tab, 0)
 | r :: rs, tab => if (voteJ r k tab).2 = 0 then voteR k rs (voteJ r k tab).1 else ([], (voteJ r k tab).2)
def tab0 (k : Nat) : List LS := (List.replicate (k + 1) []).set 0 [0]
def voteP (rows : List LS) (k : Nat) : LS × Int := if (voteR k rows (tab0 k)).2 = 0 then ((voteR k rows (tab0 k)).1.getD k [], 0) else ([], (voteR k rows (tab0 k)).2)
def qZ9 (kind k : Int) (rows : List LS) : LS × Int :=
 if kind = 0 then (if k = 0 then [0] else [], 0)
 else if kind = 3 then qB1 qJ7 rows [0]
 else if kind = 2 then qB1 qX8 rows []
 else voteP rows ((rows.length : Int) - k + 1).toNat
def runP : List NodeP -> List LS -> List LS × Int
 | [], fam => (fam, 0)
 | x :: r, fam => if (qZ9 x.kind x.k (x.args.map fun a => fam.getD a.toNat [])).2 = 0 then runP r (fam ++ [(qZ9 x.kind x.k (x.args.map fun a => fam.getD a.toNat [])).1])
   else ([], (qZ9 x.kind x.k (x.args.map fun a => fam.getD a.toNat [])).2)
theorem runP_append : ∀ (l : List NodeP) (fam : List LS) (x : NodeP), (runP l fam).2 = 0 -> runP (l ++ [x]) fam = runP [x] (runP l fam).1
 | [], fam, x, _ => rfl
 | y :: l, fam, x, h => by
   rw [runP] at h
   split at h
   ·rename_i h1
    rw [List.cons_append, runP, if_pos h1, runP_append l _ x h]
    rw [show runP (y :: l) fam = _ from by rw [runP, if_pos h1]]
   ·rename_i h1; exact absurd h h1
theorem runP_bad : ∀ (l l' : List NodeP) (fam : List LS), ¬ (runP l fam).2 = 0 -> runP (l ++ l') fam = runP l fam
 | [], l', fam, h => absurd rfl h
 | y :: l, l', fam, h => by
   rw [List.cons_append, runP]
   rw [runP] at h ⊢
   split
   ·rename_i h1; rw [if_pos h1] at h; exact runP_bad l l' _ h
   ·rfl
theorem runP_length : ∀ (l : List NodeP) (fam : List LS), (runP l fam).2 = 0 -> (runP l fam).1.length = fam.length + l.length
 | [], fam, _ => by simp [runP]
 | x :: l, fam, h => by
   rw [runP] at h ⊢
   split at h
   ·rename_i h1
    rw [if_pos h1, runP_length l _ h]; simp; omega
   ·rename_i h1; exact absurd h h1
def fam0 (n : Nat) : List LS := (List.range n).map fun i => [one i]
def pathsE (f : FormP) : Int := (runP (trimF f).nodes (fam0 f.vars.toNat)).2
def qW5 (f : FormP) : LS := if pathsE f = 0 then (runP (trimF f).nodes (fam0 f.vars.toNat)).1.getD (trimF f).top.toNat [] else []
def argR (n : Nat) (tab : List LS) (a : Int) : LS := if a < n then [one a.toNat] else tab.getD (a - n).toNat []
def runR (n : Nat) (ns : List NodeP) (m : List Bool) : Nat -> List LS × Int
 | 0 => (List.replicate ns.length [], 0)
 | i + 1 => if (runR n ns m i).2 = 0 then
     if m.getD (n + i) false = true then
      if (qZ9 (ns.getD i qX1).kind (ns.getD i qX1).k ((ns.getD i qX1).args.map (argR n (runR n ns m i).1))).2 = 0 then ((runR n ns m i).1.set i (qZ9 (ns.getD i qX1).kind (ns.getD i qX1).k ((ns.getD i qX1).args.map (argR n (runR n ns m i).1))).1, 0)
      else ([], (qZ9 (ns.getD i qX1).kind (ns.getD i qX1).k ((ns.getD i qX1).args.map (argR n (runR n ns m i).1))).2)
     else runR n ns m i
  else runR n ns m i
theorem runP_one (x : NodeP) (fam : List LS) : runP [x] fam = if (qZ9 x.kind x.k (x.args.map fun a => fam.getD a.toNat [])).2 = 0 then (fam ++ [(qZ9 x.kind x.k (x.args.map fun a => fam.getD a.toNat [])).1], 0) else ([], (qZ9 x.kind x.k (x.args.map fun a => fam.getD a.toNat [])).2) := by
 rw [runP]; rfl
theorem runR_succ (n : Nat) (ns : List NodeP) (m : List Bool) (i : Nat) : runR n ns m (i + 1) = if (runR n ns m i).2 = 0 then
   if m.getD (n + i) false = true then
    if (qZ9 (ns.getD i qX1).kind (ns.getD i qX1).k ((ns.getD i qX1).args.map (argR n (runR n ns m i).1))).2 = 0 then ((runR n ns m i).1.set i (qZ9 (ns.getD i qX1).kind (ns.getD i qX1).k ((ns.getD i qX1).args.map (argR n (runR n ns m i).1))).1, 0)
    else ([], (qZ9 (ns.getD i qX1).kind (ns.getD i qX1).k ((ns.getD i qX1).args.map (argR n (runR n ns m i).1))).2)
   else runR n ns m i
  else runR n ns m i := rfl
theorem getD_app_left {α : Type} {l : List α} {x d : α} {i : Nat} (h : i < l.length) : (l ++ [x]).getD i d = l.getD i d := by
 simp [List.getD_eq_getElem?_getD, List.getElem?_append_left h]
theorem getD_app_last {α : Type} {l : List α} {x d : α} {i : Nat} (h : i = l.length) : (l ++ [x]).getD i d = x := by
 subst h; simp [List.getD_eq_getElem?_getD]
theorem qA6 {α : Type} {l : List α} {x d : α} {i j : Nat} (h : i ≠ j) : (l.set i x).getD j d = l.getD j d := by
 simp [List.getD_eq_getElem?_getD, List.getElem?_set_ne h]
theorem getD_set_at {α : Type} {l : List α} {x d : α} {i : Nat} (h : i < l.length) : (l.set i x).getD i d = x := by
 simp [List.getD_eq_getElem?_getD, h]
section
variable {n : Nat} {ns : List NodeP} {m : List Bool}
theorem run_eq (hcl : ∀ (i : Nat) (h : i < ns.length), m.getD (n + i) false = true -> ∀ a ∈ ns[i].args, m.getD a.toNat false = true /\ 0 ≤ a /\ a.toNat < n + i) : ∀ i, i ≤ ns.length ->
  (runP (qW6 n ns m i).2 (fam0 n)).2 = (runR n ns m i).2 /\ ((runR n ns m i).2 = 0 -> (runR n ns m i).1.length = ns.length /\
   ∀ j, j < n + i -> m.getD j false = true -> 0 ≤ (qW6 n ns m i).1.getD j 0 /\ ((qW6 n ns m i).1.getD j 0).toNat < n + (qW6 n ns m i).2.length /\ argR n (runR n ns m i).1 j = (runP (qW6 n ns m i).2 (fam0 n)).1.getD ((qW6 n ns m i).1.getD j 0).toNat [])
 | 0, _ => by
   refine ⟨rfl, fun _ => ⟨by simp [runR], fun j hj _ => ?_⟩⟩
   have hj' : j < n := by omega
   have e : (qW6 n ns m 0).1.getD j 0 = (j : Int) := by
    simp [qW6, List.getD_eq_getElem?_getD, show j < n + ns.length by omega, hj']
   rw [e]
   refine ⟨by omega, by simp [qW6]; omega, ?_⟩
   simp [argR, runP, qW6, fam0, List.getD_eq_getElem?_getD, hj']
 | i + 1, hi => by
   obtain ⟨ih1, ih2⟩ := run_eq hcl i (by omega)
   have hi' : i < ns.length := by omega
   have htl := trimN_len n ns m i
   have e1 := trimN_succ n ns m i
   have e2 := runR_succ n ns m i
   have hX : ns.getD i qX1 = ns[i] := by simp [List.getD_eq_getElem?_getD, hi']
   by_cases h0 : (runR n ns m i).2 = 0
   ·obtain ⟨hlen, hrel⟩ := ih2 h0
    rw [if_pos h0] at e2
    by_cases hm : m.getD (n + i) false = true
    ·rw [if_pos hm] at e1 e2
     have hP0 : (runP (qW6 n ns m i).2 (fam0 n)).2 = 0 := by rw [ih1, h0]
     have hfl : (runP (qW6 n ns m i).2 (fam0 n)).1.length = n + (qW6 n ns m i).2.length := by rw [runP_length _ _ hP0]; simp [fam0]
     have hc := hcl i hi' hm
     rw [hX] at e1 e2
     generalize ns[i] = X at hc e1 e2
     generalize hTT : qW6 n ns m i = TT at *
     obtain ⟨mv, kept⟩ := TT
     generalize hRR : runR n ns m i = RR at *
     obtain ⟨tab, er⟩ := RR
     simp only at h0 hlen hrel e1 e2 hP0 hfl htl
     generalize hFF : runP kept (fam0 n) = FF at *
     obtain ⟨fam, fe⟩ := FF
     simp only at hP0 hfl hrel
     have hrows : X.args.map (argR n tab) = (X.args.map fun a => mv.getD a.toNat 0).map fun a => fam.getD a.toNat [] := by
      rw [List.map_map]
      refine List.map_congr_left fun a ha => ?_
      obtain ⟨k1, k2, k3⟩ := hc a ha
      have := (hrel a.toNat (by omega) k1).2.2
      rw [Int.toNat_of_nonneg k2] at this
      exact this
     rw [hrows] at e2
     have e3 : runP (qW6 n ns m (i + 1)).2 (fam0 n) = runP [⟨X.kind, X.k, X.args.map fun a => mv.getD a.toNat 0⟩] fam := by
      rw [e1]
      have := runP_append kept (fam0 n) ⟨X.kind, X.k, X.args.map fun a => mv.getD a.toNat 0⟩ (by rw [hFF]; exact hP0)
      rw [this, hFF]
     rw [runP_one] at e3
     simp only at e3
     generalize hp : qZ9 X.kind X.k ((X.args.map fun a => mv.getD a.toNat 0).map fun a => fam.getD a.toNat []) = p at e2 e3
     by_cases hp0 : p.2 = 0
     ·rw [if_pos hp0] at e2 e3
      rw [e1, e2]
      rw [e1] at e3
      simp only at e3
      rw [e3]
      refine ⟨rfl, fun _ => ⟨by simp [hlen], fun j hj hjm => ?_⟩⟩
      simp only [List.length_append, List.length_cons, List.length_nil]
      by_cases hji : j = n + i
      ·subst hji
       have e4 : (mv.set (n + i) ((n : Int) + (kept.length : Int))).getD (n + i) 0 = (n : Int) + (kept.length : Int) := getD_set_at (by omega)
       rw [e4]
       refine ⟨by omega, by omega, ?_⟩
       rw [getD_app_last (by rw [hfl]; omega), argR, if_neg (by omega), show Int.toNat (((n + i : Nat) : Int) - (n : Int)) = i by omega, getD_set_at (by omega)]
      ·obtain ⟨k1, k2, k3⟩ := hrel j (by omega) hjm
       have e4 : (mv.set (n + i) ((n : Int) + (kept.length : Int))).getD j 0 = mv.getD j 0 := qA6 (Ne.symm hji)
       rw [e4]
       refine ⟨k1, by omega, ?_⟩
       rw [getD_app_left (by rw [hfl]; exact k2), <-k3]
       unfold argR
       by_cases hjn : (j : Int) < n
       ·rw [if_pos hjn, if_pos hjn]
       ·rw [if_neg hjn, if_neg hjn]
        exact qA6 (by omega)
     ·rw [if_neg hp0] at e2 e3
      rw [e2, e3]
      exact ⟨rfl, fun h => absurd h hp0⟩
    ·rw [if_neg hm] at e1 e2
     rw [e1, e2]
     refine ⟨ih1, fun _ => ⟨hlen, fun j hj hjm => ?_⟩⟩
     by_cases hji : j = n + i
     ·subst hji; exact absurd hjm hm
     ·exact hrel j (by omega) hjm
   ·rw [if_neg h0] at e2
    rw [e2]
    refine ⟨?_, fun h => absurd h h0⟩
    rw [e1]
    split
    ·rw [runP_bad _ _ _ (by rw [ih1]; exact h0), ih1]
    ·exact ih1
end
end Go.Pu
end
section
namespace Go.Proofs.YtgoilpfpmbjegaaGreatDoor
open Go.Sy Go.Pu
variable [Drw]
theorem plusP_does (a b : List Int) : DoesF Tryz.prog 148 [lV a, lV b] [] (.tup [lV (qX8 a b).1, eV (qX8 a b).2]) [] := by
 have := plus_does a b
 unfold qX8
 split
 ·rename_i h; simpa [h] using this
 ·rename_i h; simpa [h] using this
theorem prodP_does (a b : List Int) : DoesF Tryz.prog 110 [lV a, lV b] [] (.tup [lV (qJ7 a b).1, eV (qJ7 a b).2]) [] := by
 have := product_does a b
 unfold qJ7
 split
 ·rename_i h; simpa [h] using this
 ·rename_i h; simpa [h] using this
theorem rplusP_does (a b : List Int) : DoesF Tryz.prog 139 [lV a, lV b] [] (.tup [lV (qX8 a b).1, iV (qX8 a b).2]) [] := by
 have := rplus_does a b
 rw [plus_ref]
 split
 ·rename_i h; simpa [h] using this
 ·rename_i h; simpa [h] using this
theorem rprodP_does (a b : List Int) : DoesF Tryz.prog 117 [lV a, lV b] [] (.tup [lV (qJ7 a b).1, iV (qJ7 a b).2]) [] := by
 have := rproduct_does a b
 rw [prod_ref]
 split
 ·rename_i h; simpa [h] using this
 ·rename_i h; simpa [h] using this
def J0 : Fns := (148, fLL (fun a b => .tup [lV (qX8 a b).1, eV (qX8 a b).2]) fun _ _ => True) ::
 (110, fLL (fun a b => .tup [lV (qJ7 a b).1, eV (qJ7 a b).2]) fun _ _ => True) ::
 (139, fLL (fun a b => .tup [lV (qX8 a b).1, iV (qX8 a b).2]) fun _ _ => True) ::
 (117, fLL (fun a b => .tup [lV (qJ7 a b).1, iV (qJ7 a b).2]) fun _ _ => True) ::
 T24
theorem qC9 : FnsOk Tryz.prog J0 := .cons (.cons (.cons (.cons (T24_ok) Tryz.func117 rfl rfl (fLL_ok fun a b _ => rprodP_does a b)) Tryz.func139 rfl rfl (fLL_ok fun a b _ => rplusP_does a b)) Tryz.func110 rfl rfl (fLL_ok fun a b _ => prodP_does a b)) Tryz.func148 rfl rfl (fLL_ok fun a b _ => plusP_does a b)
theorem or_does (rows : List (List Int)) : DoesF Tryz.prog 131 [.c (intss rows)] [] (.tup [lV (qB1 qJ7 rows [0]).1, eV (qB1 qJ7 rows [0]).2]) [] := by
 refine DoesF.body _ Tryz.func131 rfl rfl rfl rfl ?_
 refine KW.go qQ0 qC9 100 rfl (by simp) ?_
 refine KW.frz 8 [8, 4] rfl rfl rfl ?_
 refine KW.len 9 rfl rfl fun hbig => ?_
 refine KW.goLpR qQ0 qC9 100 rfl (I := fun q : Nat × List Int => ⟨Tryz.f131.ntmps, [(4, .e (lV q.2)), (9, .e (.c (intss rows))), (10, sI rows.length), (11, sI q.1)], []⟩)
  (R := fun q => q.1 ≤ rows.length /\ qB1 qJ7 (rows.drop q.1) q.2 = qB1 qJ7 rows [0]) (m := fun q => rows.length - q.1) (0, [0]) [] rfl rfl ⟨rfl, rfl, rfl, rfl, trivial⟩ (by simp) ⟨Nat.zero_le _, rfl⟩ trivial ?_
 rintro ⟨q, acc⟩ ⟨g1, g2⟩
 simp only at g1 g2
 refine KW.goIf qQ0 qC9 100 rfl (by simp) rfl trivial (fun h => ?_) fun h => ?_
 ·have hq : q < rows.length := by simpa using h
  have hg : rows.getD (Int.toNat (q : Int)) [] = rows[q] := by simp [List.getD_eq_getElem?_getD, hq]
  rw [List.drop_eq_getElem_cons hq, qB1] at g2
  generalize rows[q] = r at hg g2
  refine KW.goIf qQ0 qC9 100 rfl (by simp [hq, qQ7]) rfl trivial (fun h => ?_) fun h => ?_
  ·simp only [qQ2, hg] at h
   have e : ¬ (qJ7 acc r).2 = 0 := by
    have e : (!qY4 (errV 57 (qJ7 acc r).2)) = true := h
    simpa using e
   rw [if_neg e] at g2
   refine KW.goOutR qQ0 qC9 100 rfl (by simp) ?_
   refine KW.go qQ0 qC9 100 rfl (by simp) ?_
   refine KW.conv 2 (qZ5 []) rfl ⟨rfl, rfl⟩ ?_
   simp only [qQ2, hg]
   rw [<-g2]
   exact KW.fin [] rfl rfl rfl trivial
  ·simp only [qQ2, hg] at h
   have e : (qJ7 acc r).2 = 0 := by
    have e : (!qY4 (errV 57 (qJ7 acc r).2)) = false := h
    simpa using e
   rw [if_pos e] at g2
   refine KW.goToR qQ0 qC9 100 rfl (q + 1, (qJ7 acc r).1) [] rfl rfl ⟨?_, rfl, rfl, rfl, trivial⟩ (by simp [inK]; omega) ⟨⟨by simp only; omega, g2⟩, by simp only; omega⟩ trivial
   simp only [qQ2, hg]; rfl
 ·have hq : q = rows.length := by simp at h; omega
  rw [hq, List.drop_length] at g2
  refine KW.goOut qQ0 qC9 100 rfl (by simp) ?_
  refine KW.goRet qQ0 qC9 100 rfl rfl ?_ (by simp) trivial
  rw [<-g2]; rfl
theorem and_does (rows : List (List Int)) : DoesF Tryz.prog 132 [.c (intss rows)] [] (.tup [lV (qB1 qX8 rows []).1, eV (qB1 qX8 rows []).2]) [] := by
 refine DoesF.body _ Tryz.func132 rfl rfl rfl rfl ?_
 refine KW.go qQ0 qC9 100 rfl (by simp) ?_
 refine KW.conv 4 (qZ5 []) rfl ⟨rfl, rfl⟩ ?_
 refine KW.len 8 rfl rfl fun hbig => ?_
 refine KW.goLpR qQ0 qC9 100 rfl (I := fun q : Nat × List Int => ⟨Tryz.f132.ntmps, [(4, .e (lV q.2)), (8, .e (.c (intss rows))), (9, sI rows.length), (10, sI q.1)], []⟩)
  (R := fun q => q.1 ≤ rows.length /\ qB1 qX8 (rows.drop q.1) q.2 = qB1 qX8 rows []) (m := fun q => rows.length - q.1) (0, []) [] rfl rfl ⟨rfl, rfl, rfl, rfl, trivial⟩ (by simp) ⟨Nat.zero_le _, rfl⟩ trivial ?_
 rintro ⟨q, acc⟩ ⟨g1, g2⟩
 simp only at g1 g2
 refine KW.goIf qQ0 qC9 100 rfl (by simp) rfl trivial (fun h => ?_) fun h => ?_
 ·have hq : q < rows.length := by simpa using h
  have hg : rows.getD (Int.toNat (q : Int)) [] = rows[q] := by simp [List.getD_eq_getElem?_getD, hq]
  rw [List.drop_eq_getElem_cons hq, qB1] at g2
  generalize rows[q] = r at hg g2
  refine KW.goIf qQ0 qC9 100 rfl (by simp [hq, qQ7]) rfl trivial (fun h => ?_) fun h => ?_
  ·simp only [qQ2, hg] at h
   have e : ¬ (qX8 acc r).2 = 0 := by
    have e : (!qY4 (errV 57 (qX8 acc r).2)) = true := h
    simpa using e
   rw [if_neg e] at g2
   refine KW.goOutR qQ0 qC9 100 rfl (by simp) ?_
   refine KW.go qQ0 qC9 100 rfl (by simp) ?_
   refine KW.conv 2 (qZ5 []) rfl ⟨rfl, rfl⟩ ?_
   simp only [qQ2, hg]
   rw [<-g2]
   exact KW.fin [] rfl rfl rfl trivial
  ·simp only [qQ2, hg] at h
   have e : (qX8 acc r).2 = 0 := by
    have e : (!qY4 (errV 57 (qX8 acc r).2)) = false := h
    simpa using e
   rw [if_pos e] at g2
   refine KW.goToR qQ0 qC9 100 rfl (q + 1, (qX8 acc r).1) [] rfl rfl ⟨?_, rfl, rfl, rfl, trivial⟩ (by simp [inK]; omega) ⟨⟨by simp only; omega, g2⟩, by simp only; omega⟩ trivial
   simp only [qQ2, hg]; rfl
 ·have hq : q = rows.length := by simp at h; omega
  rw [hq, List.drop_length] at g2
  refine KW.goOut qQ0 qC9 100 rfl (by simp) ?_
  refine KW.goRet qQ0 qC9 100 rfl rfl ?_ (by simp) trivial
  rw [<-g2]; rfl
end Go.Proofs.YtgoilpfpmbjegaaGreatDoor
namespace Go.Proofs.YtgoilpfpmbjegaaGreatDoor
open Go.Sy Go.Pu
variable [Drw]
abbrev lsC (l : List (List Int)) : CV := rows 1 (fun x _ => qZ5 x) [] l
theorem vote_does (rws : List (List Int)) (k : Nat) (hk : k ≤ 1000) : DoesF Tryz.prog 133 [.c (intss rws), iV k] [] (.tup [lV (voteP rws k).1, eV (voteP rws k).2]) [] := by
 refine DoesF.body _ Tryz.func133 rfl rfl rfl rfl ?_
 refine KW.go qQ0 qC9 100 rfl (by simp [inK]; omega) ?_
 refine KW.frz 16 [16] rfl rfl rfl ?_
 refine KW.convR 14 (lsC (List.replicate (k + 1) [])) rfl (g := fun e q => qZ5 ((List.replicate (k + 1) ([] : List Int)).getD e [])) ?_ (fun e q he hq => ?_) ?_
 ·show rows 1 (fun x _ => qZ5 x) [] (List.replicate (k + 1) []) = _
  rw [rows, List.length_replicate, show Int.toNat ((k : Int) + 1) = k + 1 by omega]
 ·have : q = 0 := by omega
  subst this
  have e2 : (List.replicate (k + 1) ([] : List Int)).getD e [] = [] := by
   rw [List.getD_eq_getElem?_getD, List.getElem?_replicate]
   split <;> rfl
  rw [e2]
  exact ⟨rfl, rfl⟩
 refine KW.go qQ0 qC9 100 rfl (by simp) ?_
 refine KW.updG 14 [0] rfl rfl (fun q hq => ?_) ?_
 ·have : q = 0 := by omega
  subst this
  exact CVEq.refl _
 refine KW.len 18 rfl rfl fun hbig => ?_
 have ht0 : (List.replicate (k + 1) ([] : List Int)).set 0 [0] = tab0 k := rfl
 rw [show Int.toNat (0 : Int) = 0 from rfl, ht0]
 refine KW.goLpR qQ0 qC9 100 rfl (I := fun q : Nat × List (List Int) => ⟨Tryz.f133.ntmps, [(1, sI k), (6, .e (.r 6)), (18, .e (.c (intss rws))), (19, sI rws.length), (20, sI q.1)], [(6, .own 25 (lsC q.2))]⟩)
  (R := fun q => q.1 ≤ rws.length /\ q.2.length = k + 1 /\ voteR k (rws.drop q.1) q.2 = voteR k rws (tab0 k)) (m := fun q => rws.length - q.1) (0, tab0 k) [(6, 14)] rfl rfl ⟨rfl, rfl, rfl, rfl, rfl, trivial⟩ (by simp) ⟨Nat.zero_le _, by simp [tab0], rfl⟩ ⟨rfl, trivial⟩ ?_
 rintro ⟨q, tab⟩ ⟨g1, g2, g3⟩
 simp only at g1 g2 g3
 have ev : voteP rws k = if (voteR k rws (tab0 k)).2 = 0 then ((voteR k rws (tab0 k)).1.getD k [], 0) else ([], (voteR k rws (tab0 k)).2) := rfl
 refine KW.goIf qQ0 qC9 100 rfl (by simp) rfl trivial (fun h => ?_) fun h => ?_
 ·have hq : q < rws.length := by simpa using h
  have hg : rws.getD (Int.toNat (q : Int)) [] = rws[q] := by simp [List.getD_eq_getElem?_getD, hq]
  rw [List.drop_eq_getElem_cons hq, voteR] at g3
  generalize rws[q] = r at hg g3
  refine KW.goLpR qQ0 qC9 100 rfl (I := fun p : Nat × List (List Int) => ⟨Tryz.f133.ntmps, [(1, sI k), (6, .e (.r 6)), (8, .e (lV r)), (9, sI p.1), (18, .e (.c (intss rws))), (19, sI rws.length), (20, sI q)], [(6, .own 25 (lsC p.2))]⟩)
   (R := fun p => p.1 ≤ k /\ p.2.length = k + 1 /\ voteJ r p.1 p.2 = voteJ r k tab) (m := fun p => p.1) (k, tab) [(6, 6)] rfl rfl ⟨rfl, rfl, by rw [<-hg]; rfl, rfl, rfl, rfl, rfl, trivial⟩ (by simp [hq]) ⟨Nat.le_refl _, g2, rfl⟩ ⟨rfl, trivial⟩ ?_
  rintro ⟨j, tb⟩ ⟨r1, r2, r3⟩
  simp only at r1 r2 r3
  refine KW.goIf qQ0 qC9 100 rfl (by simp) rfl trivial (fun h => ?_) fun h => ?_
  ·obtain ⟨j, rfl⟩ : ∃ j', j = j' + 1 := ⟨j - 1, by simp at h; omega⟩
   have hj1 : Int.toNat (((j + 1 : Nat) : Int) - 1) = j := by omega
   rw [voteJ] at r3
   refine KW.goIf qQ0 qC9 100 rfl ?_ rfl trivial (fun h => ?_) fun h => ?_
   ·simp only [r2, qQ8, qQ7, inK, true_and, and_true]
    omega
   ·simp only [qQ2, hj1] at h
    have e : ¬ (qJ7 (tb.getD j []) r).2 = 0 := by
     have e : (!qY4 (errV 57 (qJ7 (tb.getD j []) r).2)) = true := h
     simpa using e
    rw [if_neg e] at r3
    have e3 : (voteR k rws (tab0 k)) = ([], (qJ7 (tb.getD j []) r).2) := by
     rw [<-g3, <-r3, if_neg e]
    refine KW.goOutR qQ0 qC9 100 rfl (by simp) ?_
    refine KW.goOutR qQ0 qC9 100 rfl (by simp) ?_
    refine KW.go qQ0 qC9 100 rfl (by simp) ?_
    refine KW.conv 4 (qZ5 []) rfl ⟨rfl, rfl⟩ ?_
    simp only [qQ2, hj1]
    rw [ev, e3, if_neg e]
    exact KW.fin [] rfl rfl rfl trivial
   ·simp only [qQ2, hj1] at h
    have e : (qJ7 (tb.getD j []) r).2 = 0 := by
     have e : (!qY4 (errV 57 (qJ7 (tb.getD j []) r).2)) = false := h
     simpa using e
    rw [if_pos e] at r3
    refine KW.goIf qQ0 qC9 100 rfl ?_ rfl trivial (fun h => ?_) fun h => ?_
    ·simp only [r2, qQ8, qQ7, inK, true_and, and_true]
     omega
    ·simp only [qQ2, hj1, Int.toNat_natCast] at h
     have e2 : ¬ (qX8 (tb.getD (j + 1) []) (qJ7 (tb.getD j []) r).1).2 = 0 := by
      have e : (!qY4 (errV 57 (qX8 (tb.getD (j + 1) []) (qJ7 (tb.getD j []) r).1).2)) = true := h
      simpa using e
     rw [if_neg e2] at r3
     have e3 : (voteR k rws (tab0 k)) = ([], (qX8 (tb.getD (j + 1) []) (qJ7 (tb.getD j []) r).1).2) := by
      rw [<-g3, <-r3, if_neg e2]
     refine KW.goOutR qQ0 qC9 100 rfl (by simp) ?_
     refine KW.goOutR qQ0 qC9 100 rfl (by simp) ?_
     refine KW.go qQ0 qC9 100 rfl (by simp) ?_
     refine KW.conv 4 (qZ5 []) rfl ⟨rfl, rfl⟩ ?_
     simp only [qQ2, hj1, Int.toNat_natCast]
     rw [ev, e3, if_neg e2]
     exact KW.fin [] rfl rfl rfl trivial
    ·simp only [qQ2, hj1, Int.toNat_natCast] at h
     have e2 : (qX8 (tb.getD (j + 1) []) (qJ7 (tb.getD j []) r).1).2 = 0 := by
      have e : (!qY4 (errV 57 (qX8 (tb.getD (j + 1) []) (qJ7 (tb.getD j []) r).1).2)) = false := h
      simpa using e
     rw [if_pos e2] at r3
     refine KW.go qQ0 qC9 100 rfl (by simp [inK]; omega) (KW.updG 6 (qX8 (tb.getD (j + 1) []) (qJ7 (tb.getD j []) r).1).1 rfl rfl (fun p hp => ?_) (KW.to (j, tb.set (j + 1) (qX8 (tb.getD (j + 1) []) (qJ7 (tb.getD j []) r).1).1) ⟨⟨by simp only; omega, by simp only [List.length_set]; exact r2, r3⟩, by simp only; omega⟩ [(6, 6)] ⟨rfl, rfl, ⟨rfl, rfl, rfl, ?_, rfl, rfl, rfl, trivial⟩, ⟨?_, trivial⟩⟩))
     ·have : p = 0 := by omega
      subst this
      simp only [qQ2, hj1, Int.toNat_natCast]
      exact CVEq.refl _
     ·rw [show (((j : Nat) : Int)) = ((j + 1 : Nat) : Int) - 1 by omega]; rfl
     ·rfl
  ·have hj : j = 0 := by simp at h; omega
   subst hj
   replace r3 : (tb, (0 : Int)) = voteJ r k tab := r3
   rw [<-r3, if_pos rfl] at g3
   refine KW.goOut qQ0 qC9 100 rfl (by simp) ?_
   exact KW.goToR qQ0 qC9 100 rfl (q + 1, tb) [(6, 6)] rfl rfl ⟨rfl, rfl, rfl, rfl, rfl, trivial⟩ (by simp [inK]; omega) ⟨⟨by simp only; omega, r2, g3⟩, by simp only; omega⟩ ⟨rfl, trivial⟩
 ·have hq : q = rws.length := by simp at h; omega
  rw [hq, List.drop_length] at g3
  replace g3 : (tab, (0 : Int)) = voteR k rws (tab0 k) := g3
  refine KW.goOut qQ0 qC9 100 rfl (by simp) ?_
  refine KW.goRet qQ0 qC9 100 rfl rfl ?_ (by simp; omega) trivial
  rw [ev, <-g3, if_pos rfl]
  simp only [SV.ren, renL, EV.ren, Int.toNat_natCast]
  rfl
end Go.Proofs.YtgoilpfpmbjegaaGreatDoor
namespace Go.Pu
open Go.Sy
variable [Drw]
def nodeK (x : NodeP) : List CV := [.lit (.int .i64 x.kind), .lit (.int .i64 x.k), qZ5 x.args]
def fLsI (g : List (List Int) -> Int -> SV) (p : List (List Int) -> Int -> Prop) : List EV -> Option (SV × Prop)
 | [.c x, .c (.lit (.int .i64 k))] => some (g (unII x) k, isII x /\ p (unII x) k)
 | _ => none
def fNLs (g : NodeP -> List (List Int) -> SV) (p : NodeP -> List (List Int) -> Prop) : List EV -> Option (SV × Prop)
 | [.ag [.lit (.int .i64 k), .lit (.int .i64 kk), x], .c y] => some (g ⟨k, kk, unI x⟩ (unII y), isI x /\ isII y /\ p ⟨k, kk, unI x⟩ (unII y))
 | _ => none
section
variable {P : Program} {f : FuncId}
theorem fLsI_ok {g : List (List Int) -> Int -> SV} {p : List (List Int) -> Int -> Prop} (h : ∀ a k, p a k -> DoesF P f [.c (intss a), iV k] [] (g a k) []) : ∀ ys y φ, fLsI g p ys = some (y, φ) -> φ -> DoesF P f ys [] y [] := by
 intro ys y φ he hφ
 unfold fLsI at he
 split at he
 ·simp only [Option.some.injEq, Prod.mk.injEq] at he
  obtain ⟨rfl, rfl⟩ := he
  refine DoesF.conv ?_ (h _ _ hφ.2)
  exact ⟨hφ.1, CVEq.refl _, trivial⟩
 ·cases he
theorem fNLs_ok {g : NodeP -> List (List Int) -> SV} {p : NodeP -> List (List Int) -> Prop} (h : ∀ x l, p x l -> DoesF P f [.ag (nodeK x), .c (intss l)] [] (g x l) []) : ∀ ys y φ, fNLs g p ys = some (y, φ) -> φ -> DoesF P f ys [] y [] := by
 intro ys y φ he hφ
 unfold fNLs at he
 split at he
 ·rename_i k kk x l
  simp only [Option.some.injEq, Prod.mk.injEq] at he
  obtain ⟨rfl, rfl⟩ := he
  refine DoesF.conv ?_ (h _ _ hφ.2.2)
  refine ⟨⟨rfl, fun q y z hy hz => ?_⟩, hφ.2.1, trivial⟩
  match q, hy, hz with
  | 0, hy, hz => simp [nodeK] at hy hz; subst hy; subst hz; exact CVEq.refl _
  | 1, hy, hz => simp [nodeK] at hy hz; subst hy; subst hz; exact CVEq.refl _
  | 2, hy, hz => simp [nodeK] at hy hz; subst hy; subst hz; exact hφ.1
  | q + 3, hy, hz => simp at hy
 ·cases he
end
def voteIn (x : NodeP) (l : List (List Int)) : Prop := l.length ≤ 1000 /\ -1000 ≤ x.k /\ x.k ≤ 1000 /\ (x.kind = 0 ∨ x.kind = 2 ∨ x.kind = 3 ∨ (0 ≤ (l.length : Int) - x.k + 1 /\ (l.length : Int) - x.k + 1 ≤ 1000))
end Go.Pu
namespace Go.Proofs.YtgoilpfpmbjegaaGreatDoor
open Go.Sy Go.Pu
variable [Drw]
def J1 : Fns := (131, fLs (fun l => .tup [lV (qB1 qJ7 l [0]).1, eV (qB1 qJ7 l [0]).2]) fun _ => True) ::
 (132, fLs (fun l => .tup [lV (qB1 qX8 l []).1, eV (qB1 qX8 l []).2]) fun _ => True) ::
 (133, fLsI (fun l k => .tup [lV (voteP l k.toNat).1, eV (voteP l k.toNat).2]) fun l k => 0 ≤ k /\ k ≤ 1000) ::
 J0
theorem J1_ok : FnsOk Tryz.prog J1 := .cons (.cons (.cons (qC9) Tryz.func133 rfl rfl (fLsI_ok fun l k h => by have := vote_does l k.toNat (by omega); rwa [Int.toNat_of_nonneg h.1] at this)) Tryz.func132 rfl rfl (fLs_ok fun l _ => and_does l)) Tryz.func131 rfl rfl (fLs_ok fun l _ => or_does l)
theorem pnode_does (x : NodeP) (l : List (List Int)) (hv : voteIn x l) : DoesF Tryz.prog 108 [.ag (nodeK x), .c (intss l)] [] (.tup [lV (qZ9 x.kind x.k l).1, eV (qZ9 x.kind x.k l).2]) [] := by
 refine DoesF.body _ Tryz.func108 rfl rfl rfl rfl ?_
 obtain ⟨kind, kk, args⟩ := x
 obtain ⟨v1, v2, v3, v4⟩ := hv
 simp only at v2 v3 v4 ⊢
 refine KW.goIf qQ0 J1_ok 100 rfl (by simp) rfl trivial (fun h => ?_) fun h => ?_
 ·have k0 : kind = 0 := by simpa using h
  subst k0
  refine KW.goIf qQ0 J1_ok 100 rfl (by simp) rfl trivial (fun h => ?_) fun h => ?_
  ·have k1 : kk = 0 := by simpa using h
   subst k1
   refine KW.go qQ0 J1_ok 100 rfl (by simp) ?_
   refine KW.frz 13 [4] rfl rfl rfl ?_
   exact KW.fin [] rfl rfl rfl trivial
  ·have k1 : ¬ kk = 0 := by simpa using h
   refine KW.go qQ0 J1_ok 100 rfl (by simp) ?_
   refine KW.conv 4 (qZ5 []) rfl ⟨rfl, rfl⟩ ?_
   have e : qZ9 0 kk l = ([], 0) := by simp [qZ9, k1]
   rw [e]
   exact KW.fin [] rfl rfl rfl trivial
 have k0 : ¬ kind = 0 := by simpa using h
 refine KW.goIf qQ0 J1_ok 100 rfl (by simp) rfl trivial (fun h => ?_) fun h => ?_
 ·have k3 : kind = 3 := by simpa using h
  subst k3
  refine KW.goRet qQ0 J1_ok 100 rfl rfl ?_ (by simp [qQ7]) trivial
  simp only [qD8]; rfl
 have k3 : ¬ kind = 3 := by simpa using h
 refine KW.goIf qQ0 J1_ok 100 rfl (by simp) rfl trivial (fun h => ?_) fun h => ?_
 ·have k2 : kind = 2 := by simpa using h
  subst k2
  refine KW.goRet qQ0 J1_ok 100 rfl rfl ?_ (by simp [qQ7]) trivial
  simp only [qD8]; rfl
 have k2 : ¬ kind = 2 := by simpa using h
 have e : qZ9 kind kk l = voteP l ((l.length : Int) - kk + 1).toNat := by simp [qZ9, k0, k2, k3]
 refine KW.goRet qQ0 J1_ok 100 rfl rfl ?_ (by simp [qQ7, inK]; omega) trivial
 simp only [qD8, e]
 rfl
theorem trim_len2 (f : FormP) (ok : FormOk f) : (trimF f).nodes.length ≤ 128 := Nat.le_trans (trimN_len f.vars.toNat f.nodes (qZ2 f) f.nodes.length).2 ok.len
theorem below_closed {f : FormP} (ok : FormOk f) : ∀ (i : Nat) (h : i < f.nodes.length), (qZ2 f).getD (f.vars.toNat + i) false = true -> ∀ a ∈ f.nodes[i].args, (qZ2 f).getD a.toNat false = true /\ 0 ≤ a /\ a.toNat < f.vars.toNat + i := fun i h hm a ha => by
 have h1 := (ok.nodes i h).args a ha
 exact ⟨marksF_closed ok (fun _ _ => true) h hm ha rfl, h1.1, ok.args_lt i h a ha⟩
theorem trim_nodes {f : FormP} (ok : FormOk f) (hc : cohF f = true) : ∀ i, i ≤ f.nodes.length -> (∀ j, j < f.vars.toNat + i -> (qZ2 f).getD j false = true -> 0 ≤ (qW6 f.vars.toNat f.nodes (qZ2 f) i).1.getD j 0 /\ ((qW6 f.vars.toNat f.nodes (qZ2 f) i).1.getD j 0).toNat < f.vars.toNat + (qW6 f.vars.toNat f.nodes (qZ2 f) i).2.length) /\
  ∀ (q : Nat) (h : q < (qW6 f.vars.toNat f.nodes (qZ2 f) i).2.length), (∀ a ∈ (qW6 f.vars.toNat f.nodes (qZ2 f) i).2[q].args, 0 ≤ a /\ a.toNat < f.vars.toNat + q) /\ (qW6 f.vars.toNat f.nodes (qZ2 f) i).2[q].args.length ≤ 16 /\
    -1000 ≤ (qW6 f.vars.toNat f.nodes (qZ2 f) i).2[q].k /\ (qW6 f.vars.toNat f.nodes (qZ2 f) i).2[q].k ≤ 1000 /\ ((qW6 f.vars.toNat f.nodes (qZ2 f) i).2[q].kind = 0 ∨ (qW6 f.vars.toNat f.nodes (qZ2 f) i).2[q].kind = 2 ∨ (qW6 f.vars.toNat f.nodes (qZ2 f) i).2[q].kind = 3 ∨ (0 ≤ ((qW6 f.vars.toNat f.nodes (qZ2 f) i).2[q].args.length : Int) - (qW6 f.vars.toNat f.nodes (qZ2 f) i).2[q].k + 1 /\ ((qW6 f.vars.toNat f.nodes (qZ2 f) i).2[q].args.length : Int) - (qW6 f.vars.toNat f.nodes (qZ2 f) i).2[q].k + 1 ≤ 1000))
 | 0, _ => by
   refine ⟨fun j hj _ => ?_, fun q h => by simp [qW6] at h⟩
   have hj' : j < f.vars.toNat := by omega
   have e : (qW6 f.vars.toNat f.nodes (qZ2 f) 0).1.getD j 0 = (j : Int) := by
    simp [qW6, List.getD_eq_getElem?_getD, show j < f.vars.toNat + f.nodes.length by omega, hj']
    try omega
   rw [e]
   exact ⟨by omega, by simp [qW6]; omega⟩
 | i + 1, hi => by
   obtain ⟨ih1, ih2⟩ := trim_nodes ok hc i (by omega)
   have hi' : i < f.nodes.length := by omega
   have htl := trimN_len f.vars.toNat f.nodes (qZ2 f) i
   have e1 := trimN_succ f.vars.toNat f.nodes (qZ2 f) i
   have hX : f.nodes.getD i qX1 = f.nodes[i] := by simp [List.getD_eq_getElem?_getD, hi']
   by_cases hm : (qZ2 f).getD (f.vars.toNat + i) false = true
   ·rw [if_pos hm, hX] at e1
    have hcl := below_closed ok i hi' hm
    have okX := ok.nodes i hi'
    have hkd := coh_node hc hi' hm
    generalize f.nodes[i] = X at e1 hcl okX hkd
    generalize hTT : qW6 f.vars.toNat f.nodes (qZ2 f) i = TT at *
    obtain ⟨mv, kept⟩ := TT
    simp only at ih1 ih2 e1 htl
    rw [e1]
    refine ⟨fun j hj hjm => ?_, fun q h => ?_⟩
    ·simp only [List.length_append, List.length_cons, List.length_nil]
     by_cases hji : j = f.vars.toNat + i
     ·subst hji
      rw [getD_set_at (by omega)]
      exact ⟨by omega, by omega⟩
     ·rw [qA6 (Ne.symm hji)]
      have := ih1 j (by omega) hjm
      exact ⟨this.1, by omega⟩
    ·simp only at h ⊢
     simp only [List.length_append, List.length_cons, List.length_nil] at h
     by_cases hq : q < kept.length
     ·rw [List.getElem_append_left hq]; exact ih2 q hq
     ·have hq2 : q = kept.length := by omega
      subst hq2
      simp only [List.getElem_concat_length]
      refine ⟨fun a ha => ?_, by simpa using argsB_le okX.cnt, ?_⟩
      ·obtain ⟨b, hb, rfl⟩ := List.mem_map.1 ha
       obtain ⟨c1, c2, c3⟩ := hcl b hb
       exact ih1 b.toNat (by omega) c1
      ·have hk := okX.k
       have h16 := argsB_le okX.cnt
       have hkk := okX.kind
       unfold kE at hk
       simp only [List.length_map]
       split at hk
       ·rename_i h0
        split at hk
        ·cases hk
        ·rename_i h1; omega
       ·split at hk
        ·split at hk
         ·cases hk
         ·omega
        ·split at hk
         ·cases hk
         ·omega
   ·rw [if_neg hm] at e1
    rw [e1]
    refine ⟨fun j hj hjm => ?_, ih2⟩
    by_cases hji : j = f.vars.toNat + i
    ·subst hji; exact absurd hjm hm
    ·exact ih1 j (by omega) hjm
end Go.Proofs.YtgoilpfpmbjegaaGreatDoor
namespace Go.Pu
open Go.Sy
variable [Drw]
theorem limL_len (l : LS) : (limL l).length ≤ 1024 := by
 unfold limL
 split
 ·simp
 ·omega
theorem plusP_len (a b : LS) : (qX8 a b).1.length ≤ 1024 := by
 unfold qX8
 split
 ·exact limL_len _
 ·simp
theorem prodP_len (a b : LS) : (qJ7 a b).1.length ≤ 1024 := by
 unfold qJ7
 split
 ·exact limL_len _
 ·simp
theorem foldP_len {op : LS -> LS -> LS × Int} (hop : ∀ a b, (op a b).1.length ≤ 1024) : ∀ (rs : List LS) {acc : LS}, acc.length ≤ 1024 -> (qB1 op rs acc).1.length ≤ 1024
 | [], acc, h => h
 | r :: rs, acc, h => by
   rw [qB1]
   split
   ·exact foldP_len hop rs (hop _ _)
   ·simp
theorem voteJ_len (row : LS) : ∀ (j : Nat) {tab : List LS}, (∀ l ∈ tab, l.length ≤ 1024) -> ∀ l ∈ (voteJ row j tab).1, l.length ≤ 1024
 | 0, tab, h => h
 | j + 1, tab, h => by
   rw [voteJ]
   split
   ·split
    ·refine voteJ_len row j fun l hl => ?_
     rcases List.mem_or_eq_of_mem_set hl with hl | rfl
     ·exact h l hl
     ·exact plusP_len _ _
    ·simp
   ·simp
theorem voteR_len (k : Nat) : ∀ (rs : List LS) {tab : List LS}, (∀ l ∈ tab, l.length ≤ 1024) -> ∀ l ∈ (voteR k rs tab).1, l.length ≤ 1024
 | [], tab, h => h
 | r :: rs, tab, h => by
   rw [voteR]
   split
   ·exact voteR_len k rs (voteJ_len r k h)
   ·simp
theorem getD_len {tab : List LS} (h : ∀ l ∈ tab, l.length ≤ 1024) (k : Nat) : (tab.getD k []).length ≤ 1024 := by
 rw [List.getD_eq_getElem?_getD]
 cases e : tab[k]? with
 | none => simp
 | some x => exact h x (List.mem_of_getElem? e)
theorem nodePS_len (kind k : Int) (rows : List LS) : (qZ9 kind k rows).1.length ≤ 1024 := by
 unfold qZ9
 split
 ·split <;> simp
 ·split
  ·exact foldP_len prodP_len rows (by simp)
  ·split
   ·exact foldP_len plusP_len rows (by simp)
   ·unfold voteP
    split
    ·refine getD_len (voteR_len _ _ fun l hl => ?_) _
     rcases List.mem_or_eq_of_mem_set hl with hl | rfl
     ·rw [List.eq_of_mem_replicate hl]; simp
     ·simp
    ·simp
theorem fam0_len (n : Nat) : ∀ l ∈ fam0 n, l.length ≤ 1024 := fun l hl => by
 obtain ⟨i, _, rfl⟩ := List.mem_map.1 hl
 simp
end Go.Pu
namespace Go.Proofs.YtgoilpfpmbjegaaGreatDoor
open Go.Sy Go.Pu
variable [Drw]
def J2 : Fns := (108, fNLs (fun x l => .tup [lV (qZ9 x.kind x.k l).1, eV (qZ9 x.kind x.k l).2]) fun x l => voteIn x l) ::
 (107, fF (fun f => .e (eV (qV7 f))) FormIn) ::
 (106, fF (fun f => .tup [.ag (qX5 (trimF f)), .c (.lit .nilIface)]) fun f => FormIn f /\ qJ2 f = 0) ::
 J1
theorem J2_ok : FnsOk Tryz.prog J2 := .cons (.cons (.cons (J1_ok) Tryz.func106 rfl rfl (fF_ok fun f h => trim_good f h.1 h.2)) Tryz.func107 rfl rfl (fF_ok fun f h => pcheck_does f h)) Tryz.func108 rfl rfl (fNLs_ok fun x l h => pnode_does x l h)
def qC2 (f : FormP) : LS × Int := if qV7 f = 0 then (qW5 f, pathsE f) else ([], qV7 f)
theorem paths_does (f : FormP) (hin : FormIn f) : DoesF Tryz.prog 73 [.ag (qX5 f)] [] (.tup [lV (qC2 f).1, eV (qC2 f).2]) [] := by
 refine DoesF.body _ Tryz.func73 rfl rfl rfl rfl ?_
 obtain ⟨vars, ns, top⟩ := f
 refine KW.goIf qQ0 J2_ok 100 rfl (by simp only [qQ1, qQ5, true_and, and_true, qQ7]; exact hin) rfl trivial (fun h => ?_) fun h => ?_
 ·simp only [qQ1] at h
  have h1 : ¬ qV7 ⟨vars, ns, top⟩ = 0 := by
   have e : (!qY4 (errV 57 (qV7 ⟨vars, ns, top⟩))) = true := h
   simpa using e
  refine KW.go qQ0 J2_ok 100 rfl (by simp) ?_
  refine KW.conv 2 (qZ5 []) rfl ⟨rfl, rfl⟩ ?_
  rw [qC2, if_neg h1]
  simp only [qQ1]
  exact KW.fin [] rfl rfl rfl trivial
 ·simp only [qQ1] at h
  have h1 : qV7 ⟨vars, ns, top⟩ = 0 := by
   have e : (!qY4 (errV 57 (qV7 ⟨vars, ns, top⟩))) = false := h
   simpa using e
  have h02 : qJ2 ⟨vars, ns, top⟩ = 0 /\ cohF ⟨vars, ns, top⟩ = true := by
   unfold qV7 at h1
   split at h1
   ·rename_i h0
    split at h1
    ·rename_i hc; exact ⟨h0, hc⟩
    ·cases h1
   ·rename_i h0; exact absurd h1 h0
  obtain ⟨h0, hc⟩ := h02
  have ok := qY1 h0
  have hv := ok.vars
  simp only at hv
  obtain ⟨n, rfl⟩ := Int.eq_ofNat_of_zero_le hv.1
  have hn24 : n ≤ 24 := by omega
  rw [qC2, if_pos h1]
  have hTl := trim_len2 ⟨n, ns, top⟩ ok
  have hTn := trim_nodes ok hc ns.length (Nat.le_refl _)
  have hTv : (trimF ⟨n, ns, top⟩).vars = (n : Int) := rfl
  have htop := ok.top
  have hTt := hTn.1 top.toNat (by simp only at htop ⊢; omega) (marksF_top ok _)
  have hTa := hTn.2
  have ePE : pathsE ⟨n, ns, top⟩ = (runP (trimF ⟨n, ns, top⟩).nodes (fam0 n)).2 := rfl
  have ePL : qW5 ⟨n, ns, top⟩ = if pathsE ⟨n, ns, top⟩ = 0 then (runP (trimF ⟨n, ns, top⟩).nodes (fam0 n)).1.getD (trimF ⟨n, ns, top⟩).top.toNat [] else [] := rfl
  have eT1 : (trimF ⟨n, ns, top⟩).nodes = (qW6 (FormP.vars ⟨n, ns, top⟩).toNat (FormP.nodes ⟨n, ns, top⟩) (qZ2 ⟨n, ns, top⟩) ns.length).2 := rfl
  have eT2 : (trimF ⟨n, ns, top⟩).top = (qW6 (FormP.vars ⟨n, ns, top⟩).toNat (FormP.nodes ⟨n, ns, top⟩) (qZ2 ⟨n, ns, top⟩) ns.length).1.getD top.toNat 0 := rfl
  rw [<-eT2, <-eT1] at hTt
  rw [<-eT1] at hTa
  simp only [Int.toNat_natCast] at hTt hTa
  refine KW.goIf qQ0 J2_ok 100 rfl (by simp only [qQ1, qQ5, true_and, and_true]; simp [hin, h0, ifcV]) rfl trivial (fun h => absurd h (by decide)) fun h => ?_
  simp only [qQ1]
  generalize trimF ⟨n, ns, top⟩ = T at *
  obtain ⟨tv, tn, tt⟩ := T
  simp only at hTl hTv hTt hTa ePE ePL
  subst hTv
  refine KW.go qQ0 J2_ok 100 rfl (by simp [inK]; omega) ?_
  refine KW.convR 35 (lsC []) rfl (g := fun e q => qZ5 (([] : List (List Int)).getD e [])) rfl (fun e q he hq => absurd he (Nat.not_lt_zero _)) ?_
  refine KW.goLpR qQ0 J2_ok 100 rfl (I := fun q : Nat => ⟨Tryz.f73.ntmps, [(5, .e (.r 5)), (7, .e (.r 7)), (37, sI n), (38, sI q)], [(5, .box 24 [iV n, .c (qJ9 tn), iV tt] none), (7, .own 25 (lsC (fam0 q)))]⟩)
   (R := fun q => q ≤ n) (m := fun q => n - q) 0 [(5, 5), (7, 35)] rfl rfl ⟨rfl, rfl, rfl, rfl, trivial⟩ (by simp) (Nat.zero_le _) ⟨rfl, rfl, trivial⟩ ?_
  rintro q hq0
  refine KW.goIf qQ0 J2_ok 100 rfl (by simp) rfl trivial (fun h => ?_) fun h => ?_
  ·have hq : q < n := by simpa using h
   have hor := qJ3.1 (one_valid (show q < 24 by omega))
   have hone : qW0 1 (q : Int) = Go.Pu.one q := rfl
   refine KW.go qQ0 J2_ok 100 rfl (by simp [inK, qC0]; rw [hone]; omega) ?_
   refine KW.frz1 44 rfl rfl rfl ?_
   refine KW.go qQ0 J2_ok 100 rfl (by simp [inK, fam0]; omega) (KW.catG 46 [Go.Pu.one q] rfl (fun p hp => ?_) (KW.to (q + 1) ⟨by omega, by omega⟩ [(5, 5), (7, 46)] ⟨rfl, rfl, ⟨rfl, rfl, rfl, rfl, trivial⟩, ⟨rfl, ?_, trivial⟩⟩))
   ·have : p = 0 := by omega
    subst this
    exact CVEq.refl _
   ·have e : fam0 (q + 1) = fam0 q ++ [[Go.Pu.one q]] := by simp [fam0, List.range_succ]
    rw [e]; rfl
  have hq : q = n := by simp at h; omega
  subst hq
  refine KW.goOut qQ0 J2_ok 100 rfl (by simp) ?_
  refine KW.goLpR qQ0 J2_ok 100 rfl (I := fun p : Nat × List (List Int) => ⟨Tryz.f73.ntmps, [(5, .e (.r 5)), (7, .e (.r 7)), (49, .e (.c (qJ9 tn))), (50, sI tn.length), (51, sI p.1)], [(5, .box 24 [iV q, .c (qJ9 tn), iV tt] none), (7, .own 25 (lsC p.2))]⟩)
   (R := fun p => p.1 ≤ tn.length /\ p.2.length = q + p.1 /\ runP (tn.drop p.1) p.2 = runP tn (fam0 q) /\ ∀ l ∈ p.2, l.length ≤ 1024) (m := fun p => tn.length - p.1) (0, fam0 q) [(5, 5), (7, 7)] rfl rfl ⟨rfl, rfl, rfl, rfl, rfl, trivial⟩ (by simp) ⟨Nat.zero_le _, by simp [fam0], rfl, fam0_len q⟩ ⟨rfl, rfl, trivial⟩ ?_
  rintro ⟨i, fam⟩ ⟨g1, g2, g3, g4⟩
  simp only at g1 g2 g3 g4
  refine KW.goIf qQ0 J2_ok 100 rfl (by simp) rfl trivial (fun h => ?_) fun h => ?_
  ·have hi : i < tn.length := by simpa using h
   have hX : tn.getD (Int.toNat (i : Int)) qX1 = tn[i] := by simp [List.getD_eq_getElem?_getD, hi]
   have hXa := hTa i hi
   rw [List.drop_eq_getElem_cons hi, runP] at g3
   generalize tn[i] = X at hX hXa g3
   obtain ⟨x1, x2, x3⟩ := hXa
   refine KW.go qQ0 J2_ok 100 rfl (by simp [hi]) ?_
   refine KW.nilO 11 202 25 (lsC []) rfl rfl rfl ?_
   refine KW.goLpR qQ0 J2_ok 100 rfl (I := fun j : Nat => ⟨Tryz.f73.ntmps, [(5, .e (.r 5)), (7, .e (.r 7)), (10, .e (.r 10)), (11, .e (.r 202)), (49, .e (.c (qJ9 tn))), (50, sI tn.length), (51, sI i), (56, .e (lV X.args)), (57, sI X.args.length), (58, sI j)],
     [(5, .box 24 [iV q, .c (qJ9 tn), iV tt] none), (7, .own 25 (lsC fam)), (10, .box 65 [iV X.kind, iV X.k, .c (qZ5 X.args)] none), (202, .own 25 (lsC ((X.args.take j).map fun a => fam.getD a.toNat [])))]⟩)
    (R := fun j => j ≤ X.args.length) (m := fun j => X.args.length - j) 0 [(5, 5), (7, 7), (10, 10), (202, 202)] rfl rfl ⟨rfl, rfl, rfl, rfl, rfl, rfl, rfl, by rw [<-hX]; rfl, by rw [<-hX]; rfl, rfl, trivial⟩ (by simp) (Nat.zero_le _) ⟨rfl, rfl, by rw [<-hX]; rfl, rfl, trivial⟩ ?_
   rintro j hj0
   refine KW.goIf qQ0 J2_ok 100 rfl (by simp) rfl trivial (fun h => ?_) fun h => ?_
   ·have hj : j < X.args.length := by simpa using h
    have hg : X.args.getD (Int.toNat (j : Int)) 0 = X.args[j] := by simp [List.getD_eq_getElem?_getD, hj]
    have ha := x1 _ (List.getElem_mem hj)
    have htk : X.args.take (j + 1) = X.args.take j ++ [X.args[j]] := by rw [List.take_add_one, List.getElem?_eq_getElem hj]; rfl
    generalize X.args[j] = a at hg ha htk
    refine KW.go qQ0 J2_ok 100 rfl (by simp only [hg, g2]; simp [inK, List.length_take]; omega) (KW.catG 68 (fam.getD a.toNat []) rfl (fun p hp => ?_) (KW.to (j + 1) ⟨by omega, by omega⟩ [(5, 5), (7, 7), (10, 10), (202, 68)] ⟨rfl, rfl, ⟨rfl, rfl, rfl, rfl, rfl, rfl, rfl, rfl, rfl, rfl, trivial⟩, ⟨rfl, rfl, rfl, ?_, trivial⟩⟩))
    ·have : p = 0 := by omega
     subst this
     simp only [hg]
     exact CVEq.refl _
    ·rw [htk, List.map_append]; rfl
   have hj : j = X.args.length := by simp at h; omega
   subst hj
   refine KW.goOut qQ0 J2_ok 100 rfl (by simp) ?_
   refine KW.frz 202 [11] rfl rfl rfl ?_
   simp only [List.take_length]
   refine KW.conv 11 (intss (X.args.map fun a => fam.getD a.toNat [])) rfl (CVEq.refl _) ?_
   refine KW.goIf qQ0 J2_ok 100 rfl ?_ rfl trivial (fun h => ?_) fun h => ?_
   ·simp only [qQ8, qQ2, isII_intss, qD8, true_and, and_true, qQ7]
    refine ⟨by simp; omega, x3.1, x3.2.1, ?_⟩
    simpa using x3.2.2
   ·simp only [qQ2, qD8] at h
    have e : ¬ (qZ9 X.kind X.k (X.args.map fun a => fam.getD a.toNat [])).2 = 0 := by
     have e : (!qY4 (errV 57 (qZ9 X.kind X.k (X.args.map fun a => fam.getD a.toNat [])).2)) = true := h
     simpa using e
    rw [if_neg e] at g3
    have eE : pathsE ⟨q, ns, top⟩ = (qZ9 X.kind X.k (X.args.map fun a => fam.getD a.toNat [])).2 := by rw [ePE, <-g3]
    have eL : qW5 ⟨q, ns, top⟩ = [] := by rw [ePL, eE, if_neg e]
    refine KW.goOutR qQ0 J2_ok 100 rfl (by simp) ?_
    refine KW.go qQ0 J2_ok 100 rfl (by simp) ?_
    refine KW.conv 2 (qZ5 []) rfl ⟨rfl, rfl⟩ ?_
    simp only [qQ2, qD8]
    rw [eE, eL]
    exact KW.fin [] rfl rfl rfl trivial
   ·simp only [qQ2, qD8] at h
    have e : (qZ9 X.kind X.k (X.args.map fun a => fam.getD a.toNat [])).2 = 0 := by
     have e : (!qY4 (errV 57 (qZ9 X.kind X.k (X.args.map fun a => fam.getD a.toNat [])).2)) = false := h
     simpa using e
    rw [if_pos e] at g3
    refine KW.go qQ0 J2_ok 100 rfl (by simp [inK, g2]; omega) (KW.catG 82 (qZ9 X.kind X.k (X.args.map fun a => fam.getD a.toNat [])).1 rfl (fun p hp => ?_) (KW.to (i + 1, fam ++ [(qZ9 X.kind X.k (X.args.map fun a => fam.getD a.toNat [])).1]) ⟨⟨by simp only; omega, by simp only [List.length_append, List.length_cons, List.length_nil]; omega, g3, fun l hl => (List.mem_append.1 hl).elim (g4 l) fun hl => by rw [List.mem_singleton.1 hl]; exact nodePS_len _ _ _⟩, by simp only; omega⟩ [(5, 5), (7, 82)] ⟨rfl, rfl, ⟨rfl, rfl, rfl, rfl, rfl, trivial⟩, ⟨rfl, rfl, trivial⟩⟩))
    have : p = 0 := by omega
    subst this
    simp only [qQ2, qD8]
    exact CVEq.refl _
  ·have hi : i = tn.length := by simp at h; omega
   rw [hi, List.drop_length] at g3
   replace g3 : (fam, (0 : Int)) = runP tn (fam0 q) := g3
   have eE : pathsE ⟨q, ns, top⟩ = 0 := by rw [ePE, <-g3]
   have eL : qW5 ⟨q, ns, top⟩ = fam.getD tt.toNat [] := by rw [ePL, if_pos eE, <-g3]
   rw [eE, eL]
   refine KW.goOut qQ0 J2_ok 100 rfl (by simp) ?_
   refine KW.go qQ0 J2_ok 100 rfl (by simp; omega) ?_
   refine KW.callO0 (clone_does (fam.getD tt.toNat []) (Nat.le_trans (getD_len g4 _) (by decide))) (qQ9 Tryz.func109 rfl rfl) [] (.inl rfl) rfl rfl rfl rfl rfl trivial ⟨⟨_, _, rfl, trivial, .conv (CVEq.refl _)⟩, trivial⟩ rfl (.inl rfl) ?_
   refine KW.go qQ0 J2_ok 100 rfl (by simp) ?_
   refine KW.frz 89 [2] rfl rfl rfl ?_
   exact KW.fin [] rfl rfl rfl trivial
end Go.Proofs.YtgoilpfpmbjegaaGreatDoor
end
section
namespace Go.Pu
open Go.Sy
variable [Drw]
end Go.Pu
namespace Go.Proofs.YtgoilpfpmbjegaaGreatDoor
open Go.Sy Go.Pu
variable [Drw]
theorem ex_fam : fam0 3 = [[1], [2], [4]] := by decide +kernel
end Go.Proofs.YtgoilpfpmbjegaaGreatDoor
namespace Go.Proofs.YtgoilpfpmbjegaaGreatDoor
open Go.Sy Go.Pu
variable [Drw]
def J3 : Fns := (73, fF (fun f => .tup [lV (qC2 f).1, eV (qC2 f).2]) FormIn) ::
 J2
theorem J3_ok : FnsOk Tryz.prog J3 := .cons (J2_ok) Tryz.func73 rfl rfl (fF_ok fun f h => paths_does f h)
end Go.Proofs.YtgoilpfpmbjegaaGreatDoor
namespace Go.Proofs.YtgoilpfpmbjegaaGreatDoor
open Go.Sy Go.Pu
variable [Drw]
def J4 : Fns := (27, fF (fun f => sI (qJ2 f)) FormIn) ::
 (113, fF (fun f => sB (cohF f)) fun f => FormIn f /\ qJ2 f = 0) ::
 (115, fF (fun f => .e (blV (qZ2 f))) fun f => FormIn f /\ qJ2 f = 0) ::
 (51, fFI (fun f s => sB (setB f s)) fun f s => 0 ≤ f.vars /\ f.vars ≤ 24) ::
 J3
theorem J4_ok : FnsOk Tryz.prog J4 := .cons (.cons (.cons (.cons (J3_ok) Tryz.func51 rfl rfl (fFI_ok fun f s h => set_does f s h)) Tryz.func115 rfl rfl (fF_ok fun f h => rbelow_does f h.1 h.2)) Tryz.func113 rfl rfl (fF_ok fun f h => rsyntax_does f h.1 h.2)) Tryz.func27 rfl rfl (fF_ok fun f h => rcheckF_does f h)
theorem rerror34_does (f : FormP) (hin : FormIn f) : DoesF Tryz.prog 78 [.ag (qX5 f)] [] (sI (qV7 f)) [] := by
 refine DoesF.body _ Tryz.func78 rfl rfl rfl rfl ?_
 obtain ⟨vars, ns, top⟩ := f
 refine KW.goIf qQ0 J4_ok 100 rfl (by simp [hin]) rfl trivial (fun h => ?_) fun h => ?_
 ·simp only [qQ1] at h
  have h1 : ¬ qJ2 ⟨vars, ns, top⟩ = 0 := by
   have e : (qJ2 ⟨vars, ns, top⟩ != 0) = true := h
   simpa using e
  refine KW.goRet qQ0 J4_ok 100 rfl rfl ?_ (by simp) trivial
  simp only [qQ1, qV7, if_neg h1]; rfl
 ·simp only [qQ1] at h
  have h1 : qJ2 ⟨vars, ns, top⟩ = 0 := by
   have e : (qJ2 ⟨vars, ns, top⟩ != 0) = false := h
   simpa using e
  refine KW.goIf qQ0 J4_ok 100 rfl (by simp [hin, h1]) rfl trivial (fun h => ?_) fun h => ?_
  ·simp only [qQ1] at h
   have h2 : cohF ⟨vars, ns, top⟩ = false := by
    have e : (!cohF ⟨vars, ns, top⟩) = true := h
    simpa using e
   refine KW.goRet qQ0 J4_ok 100 rfl rfl ?_ (by simp) trivial
   simp only [qV7, if_pos h1, h2]; rfl
  ·simp only [qQ1] at h
   have h2 : cohF ⟨vars, ns, top⟩ = true := by
    have e : (!cohF ⟨vars, ns, top⟩) = false := h
    simpa using e
   refine KW.goRet qQ0 J4_ok 100 rfl rfl ?_ (by simp) trivial
   simp only [qV7, if_pos h1, h2]; rfl
def J5 : Fns := (78, fF (fun f => sI (qV7 f)) FormIn) ::
 J4
theorem J5_ok : FnsOk Tryz.prog J5 := .cons (J4_ok) Tryz.func78 rfl rfl (fF_ok fun f h => rerror34_does f h)
end Go.Proofs.YtgoilpfpmbjegaaGreatDoor
namespace Go.Pu
open Go.Sy
variable [Drw]
def brA : List NodeP -> Int
 | [] => 0
 | x :: r => x.args.length + brA r
def brV : List NodeP -> Int
 | [] => 0
 | x :: r => (if x.kind = 4 then (x.args.length : Int) * ((x.args.length : Int) - x.k + 1) else 0) + brV r
def broadF (f : FormP) : Bool := decide (80 < brA f.nodes) || decide (130 < brV f.nodes)
end Go.Pu
namespace Go.Proofs.YtgoilpfpmbjegaaGreatDoor
open Go.Sy Go.Pu
variable [Drw]
def J6 : Fns := J5
theorem J6_ok : FnsOk Tryz.prog J6 := J5_ok
def J7 : Fns := J6
theorem qX9 : FnsOk Tryz.prog J7 := J6_ok
end Go.Proofs.YtgoilpfpmbjegaaGreatDoor
end
section
namespace Go.Proofs.YtgoilpfpmbjegaaGreatDoor
open Go.Sy Go.Pu
variable [Drw]
theorem rnode34_does (f : FormP) (x : NodeP) (bef : List (List Int)) (n : Nat) (hn : f.vars = n) (hn24 : n ≤ 24) (hk : x.kind = 0 /\ (x.k = 0 ∨ x.k = 1) ∨ x.kind = 2 ∨ x.kind = 3 ∨ x.kind = 4 /\ 1 ≤ x.k /\ x.k ≤ x.args.length) (hl : x.args.length ≤ 16) (ha : ∀ a ∈ x.args, 0 ≤ a /\ a < n + bef.length) (ht : bef.length ≤ 128) :
  DoesK Tryz.prog 116 [.ag (qX5 f), .ag (nodeK x), .r 2] [(2, .own 25 (lsC bef))] (.tup [lV (qZ9 x.kind x.k (x.args.map (argR n bef))).1, iV (qZ9 x.kind x.k (x.args.map (argR n bef))).2]) [(2, .own 25 (lsC bef))] [2] := by
 refine DoesK.body _ [(2, 2)] Tryz.func116 rfl rfl rfl rfl ⟨rfl, rfl, trivial⟩ rfl ?_
 obtain ⟨vars, ns, top⟩ := f
 obtain ⟨kind, kk, args⟩ := x
 simp only at hn hk hl ha ⊢
 subst hn
 refine KW.go qQ0 qX9 100 rfl (by simp) ?_
 refine KW.nilO 8 202 25 (lsC []) rfl rfl rfl ?_
 refine KW.goLpR qQ0 qX9 100 rfl (I := fun j : Nat => ⟨Tryz.f116.ntmps, [(2, .e (.r 2)), (3, .e (.r 3)), (4, .e (.r 4)), (8, .e (.r 202)), (30, .e (lV args)), (31, sI args.length), (32, sI j)],
   [(2, .own 25 (lsC bef)), (3, .box 24 [iV n, .c (qJ9 ns), iV top] none), (4, .box 65 [iV kind, iV kk, .c (qZ5 args)] none), (202, .own 25 (lsC ((args.take j).map (argR n bef))))]⟩)
  (R := fun j => j ≤ args.length) (m := fun j => args.length - j) 0 [(2, 2), (3, 3), (4, 4), (202, 202)] rfl rfl ⟨rfl, rfl, rfl, rfl, rfl, rfl, rfl, trivial⟩ (by simp) (Nat.zero_le _) ⟨rfl, rfl, rfl, rfl, trivial⟩ ?_
 rintro j hj0
 refine KW.goIf qQ0 qX9 100 rfl (by simp) rfl trivial (fun h => ?_) fun h => ?_
 ·have hj : j < args.length := by simpa using h
  have hg : args.getD (Int.toNat (j : Int)) 0 = args[j] := by simp [List.getD_eq_getElem?_getD, hj]
  have hz := ha _ (List.getElem_mem hj)
  have htk : args.take (j + 1) = args.take j ++ [args[j]] := by rw [List.take_add_one, List.getElem?_eq_getElem hj]; rfl
  generalize args[j] = a at hg hz htk
  refine KW.goIf qQ0 qX9 100 rfl (by simp [hj]) rfl trivial (fun h => ?_) fun h => ?_
  ·simp only [hg] at h
   have hlt : a < n := by simpa using h
   obtain ⟨b, rfl⟩ := Int.eq_ofNat_of_zero_le hz.1
   have hor := qJ3.1 (one_valid (show b < 24 by omega))
   have hone : qW0 1 (b : Int) = Go.Pu.one b := rfl
   have e : argR n bef (b : Int) = [Go.Pu.one b] := by rw [argR, if_pos hlt]; rfl
   refine KW.go qQ0 qX9 100 rfl (by simp only [hg, hone]; simp [inK, qC0]; omega) ?_
   refine KW.frz1 43 rfl rfl rfl ?_
   refine KW.go qQ0 qX9 100 rfl (by simp [inK, List.length_take]; omega) (KW.catG 45 [Go.Pu.one b] rfl (fun p hp => ?_) (KW.to (j + 1) ⟨by omega, by omega⟩ [(2, 2), (3, 3), (4, 4), (202, 45)] ⟨rfl, rfl, ⟨rfl, rfl, rfl, rfl, rfl, rfl, rfl, trivial⟩, ⟨rfl, rfl, rfl, ?_, trivial⟩⟩))
   ·have : p = 0 := by omega
    subst this
    simp only [hg, hone]
    exact CVEq.refl _
   ·rw [htk, List.map_append, show ([(b : Int)].map (argR n bef)) = [[Go.Pu.one b]] by simp [e]]; rfl
  ·simp only [hg] at h
   have hlt : ¬ a < n := by simpa using h
   have e : argR n bef a = bef.getD (a - n).toNat [] := by rw [argR, if_neg hlt]
   refine KW.go qQ0 qX9 100 rfl (by simp only [hg]; simp [inK, List.length_take]; omega) (KW.catG 55 (argR n bef a) rfl (fun p hp => ?_) (KW.to (j + 1) ⟨by omega, by omega⟩ [(2, 2), (3, 3), (4, 4), (202, 55)] ⟨rfl, rfl, ⟨rfl, rfl, rfl, rfl, rfl, rfl, rfl, trivial⟩, ⟨rfl, rfl, rfl, ?_, trivial⟩⟩))
   ·have : p = 0 := by omega
    subst this
    simp only [hg, e]
    exact CVEq.refl _
   ·rw [htk, List.map_append]; rfl
 have hj : j = args.length := by simp at h; omega
 subst hj
 refine KW.goOut qQ0 qX9 100 rfl (by simp) ?_
 refine KW.frz 202 [8] rfl rfl rfl ?_
 simp only [List.take_length]
 refine KW.conv 8 (intss (args.map (argR n bef))) rfl (CVEq.refl _) ?_
 have hrl : (args.map (argR n bef)).length = args.length := by simp
 generalize args.map (argR n bef) = rws at hrl
 refine KW.goIf qQ0 qX9 100 rfl (by simp) rfl trivial (fun h => ?_) fun h => ?_
 ·have k0 : kind = 0 := by simpa using h
  subst k0
  refine KW.goIf qQ0 qX9 100 rfl (by simp) rfl trivial (fun h => ?_) fun h => ?_
  ·have k1 : kk = 1 := by simpa using h
   refine KW.go qQ0 qX9 100 rfl (by simp) ?_
   refine KW.conv 6 (qZ5 []) rfl ⟨rfl, rfl⟩ ?_
   have e : qZ9 0 kk rws = ([], 0) := by simp [qZ9, k1]
   rw [e]
   exact KW.finK [(2, 2)] rfl rfl rfl ⟨rfl, trivial⟩ ⟨rfl, trivial⟩
  ·have k1 : kk = 0 := by
    have : ¬ kk = 1 := by simpa using h
    omega
   have e : qZ9 0 kk rws = ([0], 0) := by simp [qZ9, k1]
   rw [e]
   refine KW.go qQ0 qX9 100 rfl (by simp) ?_
   refine KW.frz 64 [6] rfl rfl rfl ?_
   exact KW.finK [(2, 2)] rfl rfl rfl ⟨rfl, trivial⟩ ⟨rfl, trivial⟩
 have k0 : ¬ kind = 0 := by simpa using h
 refine KW.goIf qQ0 qX9 100 rfl (by simp) rfl trivial (fun h => ?_) fun h => ?_
 ·have k2 : kind = 2 := by simpa using h
  have e0 : qZ9 kind kk rws = qB1 qX8 rws [] := by simp [qZ9, k2]
  rw [e0]
  refine KW.go qQ0 qX9 100 rfl (by simp) ?_
  refine KW.conv 11 (qZ5 []) rfl ⟨rfl, rfl⟩ ?_
  refine KW.len 67 rfl rfl fun hbig => ?_
  refine KW.goLpR qQ0 qX9 100 rfl (I := fun q : Nat × List Int => ⟨Tryz.f116.ntmps, [(2, .e (.r 2)), (11, .e (lV q.2)), (67, .e (.c (intss rws))), (68, sI rws.length), (69, sI q.1)], [(2, .own 25 (lsC bef))]⟩)
   (R := fun q => q.1 ≤ rws.length /\ qB1 qX8 (rws.drop q.1) q.2 = qB1 qX8 rws []) (m := fun q => rws.length - q.1) (0, []) [(2, 2)] rfl rfl ⟨rfl, rfl, rfl, rfl, rfl, trivial⟩ (by simp) ⟨Nat.zero_le _, rfl⟩ ⟨rfl, trivial⟩ ?_
  rintro ⟨q, acc⟩ ⟨g1, g2⟩
  simp only at g1 g2
  refine KW.goIf qQ0 qX9 100 rfl (by simp) rfl trivial (fun h => ?_) fun h => ?_
  ·have hq : q < rws.length := by simpa using h
   have hg : rws.getD (Int.toNat (q : Int)) [] = rws[q] := by simp [List.getD_eq_getElem?_getD, hq]
   rw [List.drop_eq_getElem_cons hq, qB1] at g2
   generalize rws[q] = r at hg g2
   refine KW.goIf qQ0 qX9 100 rfl (by simp [hq]) rfl trivial (fun h => ?_) fun h => ?_
   ·simp only [qQ2, hg] at h
    have e : ¬ (qX8 acc r).2 = 0 := by
     have e : ((qX8 acc r).2 != 0) = true := h
     simpa using e
    rw [if_neg e] at g2
    refine KW.goOutR qQ0 qX9 100 rfl (by simp) ?_
    refine KW.go qQ0 qX9 100 rfl (by simp) ?_
    refine KW.conv 6 (qZ5 []) rfl ⟨rfl, rfl⟩ ?_
    simp only [qQ2, hg]
    rw [<-g2]
    exact KW.finK [(2, 2)] rfl rfl rfl ⟨rfl, trivial⟩ ⟨rfl, trivial⟩
   ·simp only [qQ2, hg] at h
    have e : (qX8 acc r).2 = 0 := by
     have e : ((qX8 acc r).2 != 0) = false := h
     simpa using e
    rw [if_pos e] at g2
    refine KW.goToR qQ0 qX9 100 rfl (q + 1, (qX8 acc r).1) [(2, 2)] rfl rfl ⟨rfl, ?_, rfl, rfl, rfl, trivial⟩ (by simp [inK]; omega) ⟨⟨by simp only; omega, g2⟩, by simp only; omega⟩ ⟨rfl, trivial⟩
    simp only [qQ2, hg]; rfl
  ·have hq : q = rws.length := by simp at h; omega
   rw [hq, List.drop_length] at g2
   refine KW.goOut qQ0 qX9 100 rfl (by simp) ?_
   refine KW.goRetK qQ0 qX9 100 rfl [(2, 2)] rfl rfl ?_ (by simp) (by exact ⟨rfl, trivial⟩) (by exact ⟨rfl, trivial⟩)
   rw [<-g2]; rfl
 have k2 : ¬ kind = 2 := by simpa using h
 refine KW.goIf qQ0 qX9 100 rfl (by simp) rfl trivial (fun h => ?_) fun h => ?_
 ·have k4 : kind = 4 := by simpa using h
  have e0 : qZ9 kind kk rws = voteP rws ((rws.length : Int) - kk + 1).toNat := by simp [qZ9, k4]
  obtain ⟨k, hkk⟩ := Int.eq_ofNat_of_zero_le (show 0 ≤ (rws.length : Int) - kk + 1 by omega)
  rw [e0, hkk, Int.toNat_natCast]
  have hk : k ≤ 1000 := by omega
  refine KW.goIf qQ0 qX9 100 rfl (by simp [inK]; omega) rfl trivial (fun h => ?_) fun h => ?_
  ·exact absurd k4 (by have : kind = 3 := by simpa using h
                       omega)
  refine KW.go qQ0 qX9 100 rfl (by simp [inK]; omega) ?_
  simp only [hkk]
  refine KW.frz 122 [122] rfl rfl rfl ?_
  refine KW.convR 120 (lsC (List.replicate (k + 1) [])) rfl (g := fun e q => qZ5 ((List.replicate (k + 1) ([] : List Int)).getD e [])) ?_ (fun e q he hq => ?_) ?_
  ·show rows 1 (fun x _ => qZ5 x) [] (List.replicate (k + 1) []) = _
   rw [rows, List.length_replicate, show Int.toNat ((k : Int) + 1) = k + 1 by omega]
  ·have : q = 0 := by omega
   subst this
   have e2 : (List.replicate (k + 1) ([] : List Int)).getD e [] = [] := by
    rw [List.getD_eq_getElem?_getD, List.getElem?_replicate]
    split <;> rfl
   rw [e2]
   exact ⟨rfl, rfl⟩
  refine KW.go qQ0 qX9 100 rfl (by simp) ?_
  refine KW.updG 120 [0] rfl rfl (fun q hq => ?_) ?_
  ·have : q = 0 := by omega
   subst this
   exact CVEq.refl _
  refine KW.len 124 rfl rfl fun hbig => ?_
  have ht0 : (List.replicate (k + 1) ([] : List Int)).set 0 [0] = tab0 k := rfl
  rw [show Int.toNat (0 : Int) = 0 from rfl, ht0]
  refine KW.goLpR qQ0 qX9 100 rfl (I := fun q : Nat × List (List Int) => ⟨Tryz.f116.ntmps, [(2, .e (.r 2)), (16, sI k), (22, .e (.r 22)), (124, .e (.c (intss rws))), (125, sI rws.length), (126, sI q.1)], [(2, .own 25 (lsC bef)), (22, .own 25 (lsC q.2))]⟩)
   (R := fun q => q.1 ≤ rws.length /\ q.2.length = k + 1 /\ voteR k (rws.drop q.1) q.2 = voteR k rws (tab0 k)) (m := fun q => rws.length - q.1) (0, tab0 k) [(2, 2), (22, 120)] rfl rfl ⟨rfl, rfl, rfl, rfl, rfl, rfl, trivial⟩ (by simp) ⟨Nat.zero_le _, by simp [tab0], rfl⟩ ⟨rfl, rfl, trivial⟩ ?_
  rintro ⟨q, tab⟩ ⟨g1, g2, g3⟩
  simp only at g1 g2 g3
  have ev : voteP rws k = if (voteR k rws (tab0 k)).2 = 0 then ((voteR k rws (tab0 k)).1.getD k [], 0) else ([], (voteR k rws (tab0 k)).2) := rfl
  refine KW.goIf qQ0 qX9 100 rfl (by simp) rfl trivial (fun h => ?_) fun h => ?_
  ·have hq : q < rws.length := by simpa using h
   have hg : rws.getD (Int.toNat (q : Int)) [] = rws[q] := by simp [List.getD_eq_getElem?_getD, hq]
   rw [List.drop_eq_getElem_cons hq, voteR] at g3
   generalize rws[q] = r at hg g3
   refine KW.goLpR qQ0 qX9 100 rfl (I := fun p : Nat × List (List Int) => ⟨Tryz.f116.ntmps, [(2, .e (.r 2)), (16, sI k), (22, .e (.r 22)), (24, .e (lV r)), (25, sI p.1), (124, .e (.c (intss rws))), (125, sI rws.length), (126, sI q)], [(2, .own 25 (lsC bef)), (22, .own 25 (lsC p.2))]⟩)
    (R := fun p => p.1 ≤ k /\ p.2.length = k + 1 /\ voteJ r p.1 p.2 = voteJ r k tab) (m := fun p => p.1) (k, tab) [(2, 2), (22, 22)] rfl rfl ⟨rfl, rfl, rfl, by rw [<-hg]; rfl, rfl, rfl, rfl, rfl, trivial⟩ (by simp [hq]) ⟨Nat.le_refl _, g2, rfl⟩ ⟨rfl, rfl, trivial⟩ ?_
   rintro ⟨j, tb⟩ ⟨r1, r2, r3⟩
   simp only at r1 r2 r3
   refine KW.goIf qQ0 qX9 100 rfl (by simp) rfl trivial (fun h => ?_) fun h => ?_
   ·obtain ⟨j, rfl⟩ : ∃ j', j = j' + 1 := ⟨j - 1, by simp at h; omega⟩
    have hj1 : Int.toNat (((j + 1 : Nat) : Int) - 1) = j := by omega
    rw [voteJ] at r3
    refine KW.goIf qQ0 qX9 100 rfl ?_ rfl trivial (fun h => ?_) fun h => ?_
    ·simp only [r2, qQ8, qQ7, inK, true_and, and_true]
     omega
    ·simp only [qQ2, hj1] at h
     have e : ¬ (qJ7 (tb.getD j []) r).2 = 0 := by
      have e : ((qJ7 (tb.getD j []) r).2 != 0) = true := h
      simpa using e
     rw [if_neg e] at r3
     have e3 : (voteR k rws (tab0 k)) = ([], (qJ7 (tb.getD j []) r).2) := by
      rw [<-g3, <-r3, if_neg e]
     refine KW.goOutR qQ0 qX9 100 rfl (by simp) ?_
     refine KW.goOutR qQ0 qX9 100 rfl (by simp) ?_
     refine KW.go qQ0 qX9 100 rfl (by simp) ?_
     refine KW.conv 6 (qZ5 []) rfl ⟨rfl, rfl⟩ ?_
     simp only [qQ2, hj1]
     rw [ev, e3, if_neg e]
     exact KW.finK [(2, 2)] rfl rfl rfl ⟨rfl, trivial⟩ ⟨rfl, trivial⟩
    ·simp only [qQ2, hj1] at h
     have e : (qJ7 (tb.getD j []) r).2 = 0 := by
      have e : ((qJ7 (tb.getD j []) r).2 != 0) = false := h
      simpa using e
     rw [if_pos e] at r3
     refine KW.goIf qQ0 qX9 100 rfl ?_ rfl trivial (fun h => ?_) fun h => ?_
     ·simp only [r2, qQ8, qQ7, inK, true_and, and_true]
      omega
     ·simp only [qQ2, hj1, Int.toNat_natCast] at h
      have e2 : ¬ (qX8 (tb.getD (j + 1) []) (qJ7 (tb.getD j []) r).1).2 = 0 := by
       have e : ((qX8 (tb.getD (j + 1) []) (qJ7 (tb.getD j []) r).1).2 != 0) = true := h
       simpa using e
      rw [if_neg e2] at r3
      have e3 : (voteR k rws (tab0 k)) = ([], (qX8 (tb.getD (j + 1) []) (qJ7 (tb.getD j []) r).1).2) := by
       rw [<-g3, <-r3, if_neg e2]
      refine KW.goOutR qQ0 qX9 100 rfl (by simp) ?_
      refine KW.goOutR qQ0 qX9 100 rfl (by simp) ?_
      refine KW.go qQ0 qX9 100 rfl (by simp) ?_
      refine KW.conv 6 (qZ5 []) rfl ⟨rfl, rfl⟩ ?_
      simp only [qQ2, hj1, Int.toNat_natCast]
      rw [ev, e3, if_neg e2]
      exact KW.finK [(2, 2)] rfl rfl rfl ⟨rfl, trivial⟩ ⟨rfl, trivial⟩
     ·simp only [qQ2, hj1, Int.toNat_natCast] at h
      have e2 : (qX8 (tb.getD (j + 1) []) (qJ7 (tb.getD j []) r).1).2 = 0 := by
       have e : ((qX8 (tb.getD (j + 1) []) (qJ7 (tb.getD j []) r).1).2 != 0) = false := h
       simpa using e
      rw [if_pos e2] at r3
      refine KW.go qQ0 qX9 100 rfl (by simp [inK]; omega) (KW.updG 22 (qX8 (tb.getD (j + 1) []) (qJ7 (tb.getD j []) r).1).1 rfl rfl (fun p hp => ?_) (KW.to (j, tb.set (j + 1) (qX8 (tb.getD (j + 1) []) (qJ7 (tb.getD j []) r).1).1) ⟨⟨by simp only; omega, by simp only [List.length_set]; exact r2, r3⟩, by simp only; omega⟩ [(2, 2), (22, 22)] ⟨rfl, rfl, ⟨rfl, rfl, rfl, rfl, ?_, rfl, rfl, rfl, trivial⟩, ⟨rfl, ?_, trivial⟩⟩))
      ·have : p = 0 := by omega
       subst this
       simp only [qQ2, hj1, Int.toNat_natCast]
       exact CVEq.refl _
      ·rw [show (((j : Nat) : Int)) = ((j + 1 : Nat) : Int) - 1 by omega]; rfl
      ·rfl
   ·have hj : j = 0 := by simp at h; omega
    subst hj
    replace r3 : (tb, (0 : Int)) = voteJ r k tab := r3
    rw [<-r3, if_pos rfl] at g3
    refine KW.goOut qQ0 qX9 100 rfl (by simp) ?_
    exact KW.goToR qQ0 qX9 100 rfl (q + 1, tb) [(2, 2), (22, 22)] rfl rfl ⟨rfl, rfl, rfl, rfl, rfl, rfl, trivial⟩ (by simp [inK]; omega) ⟨⟨by simp only; omega, r2, g3⟩, by simp only; omega⟩ ⟨rfl, rfl, trivial⟩
  ·have hq : q = rws.length := by simp at h; omega
   rw [hq, List.drop_length] at g3
   replace g3 : (tab, (0 : Int)) = voteR k rws (tab0 k) := g3
   refine KW.goOut qQ0 qX9 100 rfl (by simp) ?_
   refine KW.goRetK qQ0 qX9 100 rfl [(2, 2)] rfl rfl ?_ (by simp; omega) (by exact ⟨rfl, trivial⟩) (by exact ⟨rfl, trivial⟩)
   rw [ev, <-g3, if_pos rfl]
   simp only [SV.ren, renL, EV.ren, Int.toNat_natCast]
 ·have k4 : ¬ kind = 4 := by simpa using h
  have k3 : kind = 3 := by omega
  refine KW.goIf qQ0 qX9 100 rfl (by simp) rfl trivial (fun h => ?_) fun h => ?_
  ·have e0 : qZ9 kind kk rws = qB1 qJ7 rws [0] := by simp [qZ9, k3]
   rw [e0]
   refine KW.go qQ0 qX9 100 rfl (by simp) ?_
   refine KW.frz 99 [99, 17] rfl rfl rfl ?_
   refine KW.len 100 rfl rfl fun hbig => ?_
   refine KW.goLpR qQ0 qX9 100 rfl (I := fun q : Nat × List Int => ⟨Tryz.f116.ntmps, [(2, .e (.r 2)), (17, .e (lV q.2)), (100, .e (.c (intss rws))), (101, sI rws.length), (102, sI q.1)], [(2, .own 25 (lsC bef))]⟩)
    (R := fun q => q.1 ≤ rws.length /\ qB1 qJ7 (rws.drop q.1) q.2 = qB1 qJ7 rws [0]) (m := fun q => rws.length - q.1) (0, [0]) [(2, 2)] rfl rfl ⟨rfl, rfl, rfl, rfl, rfl, trivial⟩ (by simp) ⟨Nat.zero_le _, rfl⟩ ⟨rfl, trivial⟩ ?_
   rintro ⟨q, acc⟩ ⟨g1, g2⟩
   simp only at g1 g2
   refine KW.goIf qQ0 qX9 100 rfl (by simp) rfl trivial (fun h => ?_) fun h => ?_
   ·have hq : q < rws.length := by simpa using h
    have hg : rws.getD (Int.toNat (q : Int)) [] = rws[q] := by simp [List.getD_eq_getElem?_getD, hq]
    rw [List.drop_eq_getElem_cons hq, qB1] at g2
    generalize rws[q] = r at hg g2
    refine KW.goIf qQ0 qX9 100 rfl (by simp [hq]) rfl trivial (fun h => ?_) fun h => ?_
    ·simp only [qQ2, hg] at h
     have e : ¬ (qJ7 acc r).2 = 0 := by
      have e : ((qJ7 acc r).2 != 0) = true := h
      simpa using e
     rw [if_neg e] at g2
     refine KW.goOutR qQ0 qX9 100 rfl (by simp) ?_
     refine KW.go qQ0 qX9 100 rfl (by simp) ?_
     refine KW.conv 6 (qZ5 []) rfl ⟨rfl, rfl⟩ ?_
     simp only [qQ2, hg]
     rw [<-g2]
     exact KW.finK [(2, 2)] rfl rfl rfl ⟨rfl, trivial⟩ ⟨rfl, trivial⟩
    ·simp only [qQ2, hg] at h
     have e : (qJ7 acc r).2 = 0 := by
      have e : ((qJ7 acc r).2 != 0) = false := h
      simpa using e
     rw [if_pos e] at g2
     refine KW.goToR qQ0 qX9 100 rfl (q + 1, (qJ7 acc r).1) [(2, 2)] rfl rfl ⟨rfl, ?_, rfl, rfl, rfl, trivial⟩ (by simp [inK]; omega) ⟨⟨by simp only; omega, g2⟩, by simp only; omega⟩ ⟨rfl, trivial⟩
     simp only [qQ2, hg]; rfl
   ·have hq : q = rws.length := by simp at h; omega
    rw [hq, List.drop_length] at g2
    refine KW.goOut qQ0 qX9 100 rfl (by simp) ?_
    refine KW.goRetK qQ0 qX9 100 rfl [(2, 2)] rfl rfl ?_ (by simp) (by exact ⟨rfl, trivial⟩) (by exact ⟨rfl, trivial⟩)
    rw [<-g2]; rfl
  ·exact absurd k3 (by simpa using h)
end Go.Proofs.YtgoilpfpmbjegaaGreatDoor
end
section
namespace Go.Pu
open Go.Sy
variable [Drw]
theorem markN_low (n : Nat) (ns : List NodeP) (c : Nat -> Int -> Bool) : ∀ (i : Nat) {m : List Bool}, (∀ q, q < i -> m.getD (n + q) false = false) -> markN n ns c i m = m
 | 0, m, _ => rfl
 | i + 1, m, h => by
   rw [markN, if_neg (by rw [h i (by omega)]; simp), markN_low n ns c i fun q hq => h q (by omega)]
theorem below_low {f : FormP} (ok : FormOk f) (ht : f.top < f.vars) : ∀ q, (qZ2 f).getD (f.vars.toNat + q) false = false := fun q => by
 have h1 := ok.top
 have h2 := ok.vars
 have h0 : ∀ q, (mark0 f).getD (f.vars.toNat + q) false = false := fun q => by
  rw [mark0, List.getD_eq_getElem?_getD, List.getElem?_set_ne (by omega), List.getElem?_replicate]
  split <;> rfl
 rw [qZ2, marksF, markN_low _ _ _ _ fun q _ => h0 q]
 exact h0 q
theorem runR_low {n : Nat} {ns : List NodeP} {m : List Bool} (h : ∀ q, m.getD (n + q) false = false) : ∀ i, runR n ns m i = (List.replicate ns.length [], 0)
 | 0 => rfl
 | i + 1 => by rw [runR_succ, runR_low h i, if_pos rfl, if_neg (by rw [h i]; simp)]
theorem runR_bad {n : Nat} {ns : List NodeP} {m : List Bool} {i : Nat} (h : ¬ (runR n ns m i).2 = 0) : ∀ j, runR n ns m (i + j) = runR n ns m i
 | 0 => rfl
 | j + 1 => by rw [<-Nat.add_assoc, runR_succ, runR_bad h j, if_neg h]
end Go.Pu
namespace Go.Proofs.YtgoilpfpmbjegaaGreatDoor
open Go.Sy Go.Pu
variable [Drw]
theorem paths_run {f : FormP} (ok : FormOk f) (hc : cohF f = true) (h0 : qJ2 f = 0) : pathsE f = (runR f.vars.toNat f.nodes (qZ2 f) f.nodes.length).2 /\
  ((runR f.vars.toNat f.nodes (qZ2 f) f.nodes.length).2 = 0 -> qW5 f = argR f.vars.toNat (runR f.vars.toNat f.nodes (qZ2 f) f.nodes.length).1 f.top) := by
 have htop := ok.top
 have hv := ok.vars
 obtain ⟨r1, r2⟩ := run_eq (below_closed ok) f.nodes.length (Nat.le_refl _)
 refine ⟨r1, fun hz => ?_⟩
 obtain ⟨_, r3⟩ := r2 hz
 obtain ⟨k1, k2, k3⟩ := r3 f.top.toNat (by omega) (marksF_top ok _)
 rw [Int.toNat_of_nonneg htop.1] at k3
 rw [k3, qW5, if_pos (by rw [<-hz, <-r1]; rfl)]
 rfl
theorem rpaths34_does (f : FormP) (hin : FormIn f) : DoesF Tryz.prog 82 [.ag (qX5 f)] [] (.tup [lV (qC2 f).1, iV (qC2 f).2]) [] := by
 refine DoesF.body _ Tryz.func82 rfl rfl rfl rfl ?_
 obtain ⟨vars, ns, top⟩ := f
 refine KW.goIf qQ0 qX9 100 rfl (by simp [hin]) rfl trivial (fun h => ?_) fun h => ?_
 ·simp only [qQ1] at h
  have h1 : ¬ qV7 ⟨vars, ns, top⟩ = 0 := by
   have e : (qV7 ⟨vars, ns, top⟩ != 0) = true := h
   simpa using e
  refine KW.go qQ0 qX9 100 rfl (by simp) ?_
  refine KW.conv 2 (qZ5 []) rfl ⟨rfl, rfl⟩ ?_
  rw [qC2, if_neg h1]
  simp only [qQ1]
  exact KW.fin [] rfl rfl rfl trivial
 simp only [qQ1] at h
 have h1 : qV7 ⟨vars, ns, top⟩ = 0 := by
  have e : (qV7 ⟨vars, ns, top⟩ != 0) = false := h
  simpa using e
 have h02 : qJ2 ⟨vars, ns, top⟩ = 0 /\ cohF ⟨vars, ns, top⟩ = true := by
  unfold qV7 at h1
  split at h1
  ·rename_i h0
   split at h1
   ·rename_i hc; exact ⟨h0, hc⟩
   ·cases h1
  ·rename_i h0; exact absurd h1 h0
 obtain ⟨h0, hc⟩ := h02
 have ok := qY1 h0
 have hv := ok.vars
 have htop := ok.top
 have hlen := ok.len
 obtain ⟨p1, p2⟩ := paths_run ok hc h0
 have hcoh := fun (q : Nat) (hq : q < ns.length) hm => coh_node (f := ⟨vars, ns, top⟩) hc (q := q) hq hm
 have hmk := below_closed ok
 have hnk := ok.nodes
 have hlow := below_low ok
 have hbl := belowF_length ⟨vars, ns, top⟩
 simp only at hv htop hlen p1 p2 hcoh hmk hnk hlow hbl
 obtain ⟨n, rfl⟩ := Int.eq_ofNat_of_zero_le hv.1
 obtain ⟨tp, rfl⟩ := Int.eq_ofNat_of_zero_le htop.1
 simp only [Int.toNat_natCast] at p1 p2 hcoh hmk hnk hlow hbl
 rw [qC2, if_pos h1]
 refine KW.goIf qQ0 qX9 100 rfl (by simp) rfl trivial (fun h => ?_) fun h => ?_
 ·have hlt : tp < n := by simpa using h
  rw [runR_low (hlow (by omega))] at p1 p2
  have hone : qW0 1 (tp : Int) = Go.Pu.one tp := rfl
  have hor := qJ3.1 (one_valid (show tp < 24 by omega))
  have e1 : qW5 ⟨n, ns, tp⟩ = [Go.Pu.one tp] := by rw [p2 rfl, argR, if_pos (by omega)]; rfl
  rw [p1, e1]
  refine KW.go qQ0 qX9 100 rfl (by simp [inK, qC0]; rw [hone]; omega) ?_
  refine KW.frz 24 [2] rfl rfl rfl ?_
  exact KW.fin [] rfl rfl rfl trivial
 have hge : n ≤ tp := by simp at h; omega
 generalize hM : qZ2 ⟨n, ns, tp⟩ = M at *
 refine KW.go qQ0 qX9 100 rfl (by simp [inK, hin, h0, hM]; omega) ?_
 simp only [qQ1, hM]
 refine KW.convR 28 (lsC (List.replicate ns.length [])) rfl (g := fun e q => qZ5 ((List.replicate ns.length ([] : List Int)).getD e [])) ?_ (fun e q he hq => ?_) ?_
 ·show rows 1 (fun x _ => qZ5 x) [] (List.replicate ns.length []) = _
  rw [rows, List.length_replicate]; rfl
 ·have : q = 0 := by omega
  subst this
  have e2 : (List.replicate ns.length ([] : List Int)).getD e [] = [] := by
   rw [List.getD_eq_getElem?_getD, List.getElem?_replicate]
   split <;> rfl
  rw [e2]
  exact ⟨rfl, rfl⟩
 refine KW.goLpR qQ0 qX9 100 rfl (I := fun q : Nat × List (List Int) => ⟨Tryz.f82.ntmps, [(1, .e (.r 1)), (5, .e (.r 5)), (6, .e (blV M)), (32, .e (.c (qJ9 ns))), (33, sI ns.length), (34, sI q.1)],
   [(1, .box 24 [iV n, .c (qJ9 ns), iV tp] none), (5, .own 25 (lsC q.2))]⟩)
  (R := fun q => q.1 ≤ ns.length /\ q.2.length = ns.length /\ runR n ns M q.1 = (q.2, 0)) (m := fun q => ns.length - q.1) (0, List.replicate ns.length []) [(1, 1), (5, 28)] rfl rfl ⟨rfl, rfl, rfl, rfl, rfl, rfl, trivial⟩ (by simp) ⟨Nat.zero_le _, by simp, rfl⟩ ⟨rfl, rfl, trivial⟩ ?_
 rintro ⟨q, tab⟩ ⟨g1, g2, g3⟩
 simp only at g1 g2 g3
 refine KW.goIf qQ0 qX9 100 rfl (by simp) rfl trivial (fun h => ?_) fun h => ?_
 ·have hq : q < ns.length := by simpa using h
  have hX : ns.getD (Int.toNat (q : Int)) qX1 = ns[q] := by simp [List.getD_eq_getElem?_getD, hq]
  have hXq : ns.getD q qX1 = ns[q] := by simp [List.getD_eq_getElem?_getD, hq]
  have hML : M.length = n + ns.length := hbl
  have hMg : M.getD (Int.toNat ((n : Int) + (q : Int))) false = M.getD (n + q) false := by rw [show Int.toNat ((n : Int) + (q : Int)) = n + q by omega]
  have okX := hnk q hq
  have hcX := hcoh q hq
  have hmX := hmk q hq
  have e2 := runR_succ n ns M q
  rw [g3, hXq] at e2
  simp only [if_true] at e2
  generalize hYY : ns[q] = Y at hX hXq okX hcX hmX e2
  refine KW.goIf qQ0 qX9 100 rfl (by simp [hq, hML, inK]; omega) rfl trivial (fun h => ?_) fun h => ?_
  ·have hm : ¬ M.getD (n + q) false = true := by
    simp only [hMg] at h
    simpa using h
   rw [if_neg hm] at e2
   exact KW.goToR qQ0 qX9 100 rfl (q + 1, tab) [(1, 1), (5, 5)] rfl rfl ⟨rfl, rfl, rfl, rfl, rfl, rfl, trivial⟩ (by simp [inK]; omega) ⟨⟨by simp only; omega, g2, e2⟩, by simp only; omega⟩ ⟨rfl, rfl, trivial⟩
  ·have hm : M.getD (n + q) false = true := by
    simp only [hMg] at h
    simpa using h
   rw [if_pos hm] at e2
   obtain ⟨c1, c5⟩ := hcX hm
   have hkd := okX.kind
   have hkk := okX.k
   have h16 := argsB_le okX.cnt
   have hkind : Y.kind = 0 /\ (Y.k = 0 ∨ Y.k = 1) ∨ Y.kind = 2 ∨ Y.kind = 3 ∨ Y.kind = 4 /\ 1 ≤ Y.k /\ Y.k ≤ Y.args.length := by
    unfold kE at hkk
    by_cases k0 : Y.kind = 0
    ·rw [if_pos k0] at hkk
     split at hkk
     ·cases hkk
     ·exact .inl ⟨k0, by omega⟩
    ·rw [if_neg k0] at hkk
     by_cases k4 : Y.kind = 4
     ·rw [if_pos k4] at hkk
      split at hkk
      ·cases hkk
      ·exact .inr (.inr (.inr ⟨k4, by omega, by omega⟩))
     ·omega
   have D := rnode34_does ⟨n, ns, tp⟩ Y tab n rfl (by omega) hkind h16 (fun a ha => by obtain ⟨_, a1, a2⟩ := hmX hm a ha; exact ⟨a1, by omega⟩) (by omega)
   generalize hPP : qZ9 Y.kind Y.k (Y.args.map (argR n tab)) = PP at D e2
   obtain ⟨pl, pe⟩ := PP
   simp only at D e2
   rw [<-hX] at D
   refine KW.go qQ0 qX9 100 rfl (by simp [hq]) ?_
   refine KW.callK0 D (qQ9 Tryz.func116 rfl rfl) [(2, 5)] [(2, 5)] [] (.inl rfl) rfl rfl rfl rfl rfl trivial
    ⟨⟨_, _, rfl, trivial, (show Mt _ _ _ (EV.ren [(2, 5)] (.ag _)) (.ag _) from .same)⟩, ⟨_, _, rfl, trivial, (show Mt _ _ _ (EV.ren [(2, 5)] (.ag _)) (.ag _) from .same)⟩, ⟨_, _, rfl, trivial, (show Mt _ _ _ (EV.ren [(2, 5)] (.r 2)) (.r 2) from .same)⟩, trivial⟩ rfl ⟨rfl, trivial⟩ rfl ⟨.inr ⟨rfl, .inl rfl⟩, trivial⟩ rfl rfl (.inl rfl) ?_
   refine KW.goIf qQ0 qX9 100 rfl (by simp) rfl trivial (fun h => ?_) fun h => ?_
   ·have hpe : ¬ pe = 0 := by simpa using h
    rw [if_neg hpe] at e2
    have e3 : runR n ns M ns.length = ([], pe) := by
     have := runR_bad (i := q + 1) (by rw [e2]; exact hpe) (ns.length - (q + 1))
     rw [show q + 1 + (ns.length - (q + 1)) = ns.length by omega, e2] at this
     exact this
    rw [e3] at p1
    have eL : qW5 ⟨n, ns, tp⟩ = [] := by rw [qW5, if_neg (by rw [p1]; exact hpe)]
    refine KW.goOutR qQ0 qX9 100 rfl (by simp) ?_
    refine KW.go qQ0 qX9 100 rfl (by simp) ?_
    refine KW.conv 2 (qZ5 []) rfl ⟨rfl, rfl⟩ ?_
    rw [p1, eL]
    exact KW.fin [] rfl rfl rfl trivial
   ·have hpe : pe = 0 := by simpa using h
    rw [if_pos hpe] at e2
    refine KW.go qQ0 qX9 100 rfl (by simp [inK]; omega) (KW.updG 5 pl rfl rfl (fun p hp => ?_) (KW.to (q + 1, tab.set q pl) ⟨⟨by simp only; omega, by simp only [List.length_set]; exact g2, e2⟩, by simp only; omega⟩ [(1, 1), (5, 5)] ⟨rfl, rfl, ⟨rfl, rfl, rfl, rfl, rfl, rfl, trivial⟩, ⟨rfl, ?_, trivial⟩⟩))
    ·have : p = 0 := by omega
     subst this
     exact CVEq.refl _
    ·rfl
 have hqe : q = ns.length := by simp at h; omega
 rw [hqe] at g3
 rw [g3] at p1 p2
 have e1 : qW5 ⟨n, ns, tp⟩ = tab.getD (Int.toNat ((tp : Int) - (n : Int))) [] := by rw [p2 rfl, argR, if_neg (by omega)]
 rw [p1, e1]
 refine KW.goOut qQ0 qX9 100 rfl (by simp) ?_
 refine KW.goRet qQ0 qX9 100 rfl rfl rfl (by simp [inK]; omega) trivial
def J8 : Fns := (82, fF (fun f => .tup [lV (qC2 f).1, iV (qC2 f).2]) FormIn) ::
 J7
theorem J8_ok : FnsOk Tryz.prog J8 := .cons (qX9) Tryz.func82 rfl rfl (fF_ok fun f h => rpaths34_does f h)
end Go.Proofs.YtgoilpfpmbjegaaGreatDoor
end
section
namespace Go.Sy
open Go.Pu
variable [Drw]
def unC : CV -> List (Int × Int)
 | .sl n _ f => (List.range n).map fun e => (cvInt (f e 0), cvInt (f e 1))
 | _ => []
def isC (x : CV) : Prop := CVEq x (cubes (unC x))
@[simp] theorem unC_cubes (xs : List (Int × Int)) : unC (cubes xs) = xs := by
  unfold unC cubes rows
  refine List.ext_getElem (by simp) fun j h1 h2 => ?_
  simp [List.getD_eq_getElem?_getD, h2, cvInt, cubeC]
@[simp] theorem isC_cubes (xs : List (Int × Int)) : isC (cubes xs) := by unfold isC; rw [unC_cubes]; exact CVEq.refl _
section
variable {P : Program} {f : FuncId}
end
end Go.Sy
namespace Go.Proofs.YtgoilpfpmbjegaaGreatDoor
open Go.Sy Go.Pu
variable [Drw]
def F9 : Fns := (94, fFI (fun f s => .e (blV (nodesV f s))) fun f s => FormIn f /\ qJ2 f = 0) ::
 F8
theorem F9_ok : FnsOk Tryz.prog F9 := .cons (qA0) Tryz.func94 rfl rfl (fFI_ok fun f s h => rvalues_does f s h.1 h.2)
theorem ofB_all {f : FormP} {s a : Int} (hv : 0 ≤ f.vars) (h0 : 0 ≤ a) (h1 : a < f.vars + f.nodes.length) : ofB f (nodesV f s) s a = (valsF f s).getD a.toNat false := by
 have := ofB_pre (f := f) (s := s) hv (Nat.le_refl _) [] h0 h1
 rwa [List.append_nil, valsN_all _ _ (Nat.le_refl _)] at this
theorem rvalue_does (f : FormP) (s : Int) (hin : FormIn f) (h0 : qJ2 f = 0) : DoesF Tryz.prog 53 [.ag (qX5 f), iV s] [] (sB (qJ5 f s)) [] := by
 refine DoesF.body _ Tryz.func53 rfl rfl rfl rfl ?_
 have ok := qY1 h0
 have ht := ok.top
 have hv := ok.vars
 have hl := nodesV_length f s
 have hof := ofB_all (s := s) hv.1 ht.1 ht.2
 obtain ⟨vars, ns, top⟩ := f
 simp only at ht hl hv hof
 refine KW.goD qQ0 F9_ok rfl 100 rfl (by decide) rfl (by simp) (by simp only [qQ1, qQ5, unB_bools, isB_bools, true_and, and_true, hl]; exact ⟨⟨hin, h0⟩, hv, ht⟩) ?_
 refine KW.goRet qQ0 F9_ok 100 rfl rfl ?_ (by simp) trivial
 simp only [SV.ren, EV.ren, qQ1, unB_bools, hof]
 rfl
end Go.Proofs.YtgoilpfpmbjegaaGreatDoor
namespace Go.Proofs.YtgoilpfpmbjegaaGreatDoor
open Go.Sy Go.Pu
variable [Drw]
end Go.Proofs.YtgoilpfpmbjegaaGreatDoor
namespace Go.Pu
open Go.Sy
variable [Drw]
end Go.Pu
namespace Go.Proofs.YtgoilpfpmbjegaaGreatDoor
open Go.Sy Go.Pu
variable [Drw]
end Go.Proofs.YtgoilpfpmbjegaaGreatDoor
namespace Go.Proofs.YtgoilpfpmbjegaaGreatDoor
open Go.Sy Go.Pu
variable [Drw]
end Go.Proofs.YtgoilpfpmbjegaaGreatDoor
end
section
namespace Go.Proofs.YtgoilpfpmbjegaaGreatDoor
open Go.Sy Go.Pu
variable [Drw]
theorem pIsCut_does (f : FormP) (s : Int) (hin : FormIn f) : DoesF Tryz.prog 49 [.ag (qX5 f), iV s] [] (.tup [bV (isV f s false), eV (qK6 f s)]) [] := by
 refine DoesF.body _ Tryz.func49 rfl rfl rfl rfl ?_
 obtain ⟨vars, ns, top⟩ := f
 refine KW.goRet qQ0 G7_ok 100 rfl rfl ?_ (by simp only [qQ1, qQ5, true_and, and_true]; simp [hin]) trivial
 simp only [qQ1]; rfl
def K1 : Fns := (53, fFI (fun f s => sB (qJ5 f s)) fun f s => FormIn f /\ qJ2 f = 0) ::
 J8
theorem K1_ok : FnsOk Tryz.prog K1 := .cons (J8_ok) Tryz.func53 rfl rfl (fFI_ok fun f s h => rvalue_does f s h.1 h.2)
def K2 : Fns := K1
theorem K2_ok : FnsOk Tryz.prog K2 := K1_ok
def K3 : Fns := (49, fFI (fun f s => .tup [bV (isV f s false), eV (qK6 f s)]) fun f s => FormIn f) ::
 K2
theorem K3_ok : FnsOk Tryz.prog K3 := .cons (K2_ok) Tryz.func49 rfl rfl (fFI_ok fun f s h => pIsCut_does f s h)
def K4 : Fns := K3
theorem K4_ok : FnsOk Tryz.prog K4 := K3_ok
end Go.Proofs.YtgoilpfpmbjegaaGreatDoor
end
section
namespace Go.Pu
open Go.Sy
variable [Drw]
theorem part_iandNot (s x : Int) : Part (qQ4 .i64 s x) s := fun i hi => by rw [qZ4, Bool.and_eq_true] at hi; exact hi.1
end Go.Pu
namespace Go.Proofs.YtgoilpfpmbjegaaGreatDoor
open Go.Sy Go.Pu
variable [Drw]
theorem isP_mono {f : FormP} (ok : FormOk f) (hc : cohF f = true) {n : Nat} (hn : f.vars = n) (b : Bool) : ∀ x y, inN n x -> inN n y -> Part x y -> isP f x b = true -> isP f y b = true := by
 intro x y hx hy hp h
 have hn24 : n ≤ 24 := by have := ok.vars; omega
 cases b with
 | false =>
   rw [isP_cut] at h ⊢
   exact value_mono ok hc (fun i _ hi => hp i hi) h
 | true =>
   rw [isP_path hn] at h ⊢
   cases hv : qJ5 f (qQ4 .i64 (allN n) y) with
   | false => rfl
   | true =>
     have := value_mono ok hc (y := qQ4 .i64 (allN n) x) (fun i _ hi => by
      rw [qZ4, Bool.and_eq_true] at hi ⊢
      refine ⟨hi.1, ?_⟩
      cases hxi : bit x i with
      | false => rfl
      | true => rw [hp i hxi] at hi; exact absurd hi.2 (by decide)) hv
     rw [this] at h; exact absurd h (by decide)
def K5 : Fns := K4
theorem K5_ok : FnsOk Tryz.prog K5 := K4_ok
theorem pathE_ok {f : FormP} (h1 : qV7 f = 0) : qJ2 f = 0 /\ cohF f = true := by
 unfold qV7 at h1
 split at h1
 ·rename_i h0
  split at h1
  ·rename_i hc; exact ⟨h0, hc⟩
  ·cases h1
 ·rename_i h0; exact absurd h1 h0
end Go.Proofs.YtgoilpfpmbjegaaGreatDoor
end
section
namespace Go.Pu
open Go.Sy
variable [Drw]
def GoodP (n : Nat) (l : LS) : Prop := Fam l /\ ∀ t ∈ l, inN n t
theorem Fam.nil : Fam [] := ⟨by simp [Val], by simp, (anti (l := []) (by simp [Val]) (by simp [Asc]) (by simp)).2.1⟩
theorem Fam.sgl {i : Nat} (hi : i < 24) : Fam [Go.Pu.one i] := ⟨by simp [Val, one_valid hi], by simp, (anti (l := [Go.Pu.one i]) (by simp [Val, one_valid hi]) (by simp [Asc]) (by simp)).2.1⟩
section
variable {n : Nat}
theorem GoodP.nil : GoodP n [] := ⟨Fam.nil, by simp⟩
theorem inN_zero : inN n 0 := ⟨valid0, fun i _ => by simp⟩
theorem GoodP.zero : GoodP n [0] := ⟨Fam.zero, fun t ht => by rw [List.mem_singleton.1 ht]; exact inN_zero⟩
theorem inN_one' {i : Nat} (hn : n ≤ 24) (hi : i < n) : inN n (one i) := inN_of hn (validS_rng (one_valid (by omega))) fun j hj => by rw [one_bit (by omega)]; simp; omega
theorem GoodP.sgl {i : Nat} (hn : n ≤ 24) (hi : i < n) : GoodP n [Go.Pu.one i] := ⟨Fam.sgl (by omega), fun t ht => by rw [List.mem_singleton.1 ht]; exact inN_one' hn hi⟩
theorem mem_unionsC {a b : LS} {x : Int} (h : x ∈ unionsC a b) : ∃ y ∈ minS a, ∃ z ∈ minS b, x = ior .i64 y z := by
 unfold unionsC at h
 rcases (addAll_mem _ _ _).1 h with h | h
 ·cases h
 ·unfold unionsL at h
  obtain ⟨y, hy, hx⟩ := List.mem_flatMap.1 h
  obtain ⟨z, hz, rfl⟩ := List.mem_map.1 hx
  exact ⟨y, hy, z, hz, rfl⟩
theorem plus_good {a b : LS} (ha : GoodP n a) (hb : GoodP n b) (h : (qX8 a b).2 = 0) : GoodP n (qX8 a b).1 /\ ∀ x, Cov (qX8 a b).1 x ↔ Cov a x ∨ Cov b x := by
 have hf := plus_fam h
 have hv : Val (a ++ b) := ha.1.val.append hb.1.val
 have e : (qX8 a b).1 = minS (a ++ b) := by
  unfold qX8 at h ⊢
  split at h
  ·rename_i h1; rw [if_pos h1]; exact (limL_zero h).1
  ·rename_i h1; exact absurd h h1
 rw [e] at hf ⊢
 refine ⟨⟨hf, fun t ht => ?_⟩, fun x => by rw [cov_minS hv, cov_append]⟩
 exact (List.mem_append.1 (minS_sub hv ht)).elim (ha.2 t) (hb.2 t)
theorem prod_good {a b : LS} (hn : n ≤ 24) (ha : GoodP n a) (hb : GoodP n b) (h : (qJ7 a b).2 = 0) : GoodP n (qJ7 a b).1 /\ ∀ x, Cov (qJ7 a b).1 x ↔ Cov a x /\ Cov b x := by
 have hf := prod_fam h
 have hv : Val (unionsC a b) := ha.1.val.unionsC hb.1.val
 have e : (qJ7 a b).1 = minS (unionsC a b) := by
  unfold qJ7 at h ⊢
  split at h
  ·rename_i h1; rw [if_pos h1]; exact (limL_zero h).1
  ·rename_i h1; exact absurd h h1
 rw [e] at hf ⊢
 refine ⟨⟨hf, fun t ht => ?_⟩, fun x => by rw [cov_minS hv, cov_unionsC ha.1.val hb.1.val]⟩
 obtain ⟨y, hy, z, hz, rfl⟩ := mem_unionsC (minS_sub hv ht)
 exact inN_ior hn (ha.2 y (minS_sub ha.1.val hy)) (hb.2 z (minS_sub hb.1.val hz))
theorem foldP_plus : ∀ (rs : List LS) {acc : LS}, GoodP n acc -> (∀ r ∈ rs, GoodP n r) -> (qB1 qX8 rs acc).2 = 0 -> GoodP n (qB1 qX8 rs acc).1 /\ ∀ x, Cov (qB1 qX8 rs acc).1 x ↔ Cov acc x ∨ ∃ r ∈ rs, Cov r x
 | [], acc, ha, _, _ => ⟨ha, fun x => by simp [qB1]⟩
 | r :: rs, acc, ha, hr, h => by
   rw [qB1] at h ⊢
   split at h
   ·rename_i h1
    rw [if_pos h1]
    obtain ⟨g1, g2⟩ := plus_good ha (hr r (.head _)) h1
    obtain ⟨k1, k2⟩ := foldP_plus rs g1 (fun r hr' => hr r (.tail _ hr')) h
    exact ⟨k1, fun x => by rw [k2 x, g2 x]; simp [or_assoc]⟩
   ·rename_i h1; exact absurd h h1
theorem foldP_prod (hn : n ≤ 24) : ∀ (rs : List LS) {acc : LS}, GoodP n acc -> (∀ r ∈ rs, GoodP n r) -> (qB1 qJ7 rs acc).2 = 0 -> GoodP n (qB1 qJ7 rs acc).1 /\ ∀ x, Cov (qB1 qJ7 rs acc).1 x ↔ Cov acc x /\ ∀ r ∈ rs, Cov r x
 | [], acc, ha, _, _ => ⟨ha, fun x => by simp [qB1]⟩
 | r :: rs, acc, ha, hr, h => by
   rw [qB1] at h ⊢
   split at h
   ·rename_i h1
    rw [if_pos h1]
    obtain ⟨g1, g2⟩ := prod_good hn ha (hr r (.head _)) h1
    obtain ⟨k1, k2⟩ := foldP_prod hn rs g1 (fun r hr' => hr r (.tail _ hr')) h
    exact ⟨k1, fun x => by rw [k2 x, g2 x]; simp [and_assoc]⟩
   ·rename_i h1; exact absurd h h1
theorem voteJ_spec (row : LS) : ∀ (j : Nat) {tab : List LS}, j < tab.length -> (voteJ row j tab).2 = 0 -> (voteJ row j tab).1.length = tab.length /\ (∀ i, j < i ∨ i = 0 -> (voteJ row j tab).1.getD i [] = tab.getD i []) /\
  ∀ i, i < j -> (qJ7 (tab.getD i []) row).2 = 0 /\ (qX8 (tab.getD (i + 1) []) (qJ7 (tab.getD i []) row).1).2 = 0 /\ (voteJ row j tab).1.getD (i + 1) [] = (qX8 (tab.getD (i + 1) []) (qJ7 (tab.getD i []) row).1).1
 | 0, tab, _, _ => ⟨rfl, fun _ _ => rfl, fun i hi => by omega⟩
 | j + 1, tab, hj, h => by
   rw [voteJ] at h ⊢
   split at h
   ·rename_i h1
    rw [if_pos h1]
    split at h
    ·rename_i h2
     rw [if_pos h2]
     obtain ⟨k1, k2, k3⟩ := voteJ_spec row j (tab := tab.set (j + 1) (qX8 (tab.getD (j + 1) []) (qJ7 (tab.getD j []) row).1).1) (by simp; omega) h
     refine ⟨by rw [k1, List.length_set], fun i hi => ?_, fun i hi => ?_⟩
     ·rw [k2 i (by omega), qA6 (by omega)]
     ·by_cases hij : i = j
      ·subst hij
       refine ⟨h1, h2, ?_⟩
       rw [k2 (i + 1) (.inl (by omega)), getD_set_at (by omega)]
      ·have := k3 i (by omega)
       rw [qA6 (i := j + 1) (j := i) (by omega), qA6 (i := j + 1) (j := i + 1) (by omega)] at this
       exact this
    ·rename_i h2; exact absurd h h2
   ·rename_i h1; exact absurd h h1
def cntC (x : Int) (rs : List LS) : Nat := (rs.filter fun r => r.any fun t => subS t x).length
theorem voteR_spec (hn : n ≤ 24) (k : Nat) : ∀ (rs : List LS) {tab : List LS}, tab.length = k + 1 -> (∀ j, GoodP n (tab.getD j [])) -> (∀ r ∈ rs, GoodP n r) -> (voteR k rs tab).2 = 0 ->
  (∀ j, GoodP n ((voteR k rs tab).1.getD j [])) /\ ∀ x (c : Nat), (∀ j, j ≤ k -> (Cov (tab.getD j []) x ↔ j ≤ c)) -> ∀ j, j ≤ k -> (Cov ((voteR k rs tab).1.getD j []) x ↔ j ≤ c + cntC x rs)
 | [], tab, _, hg, _, _ => ⟨hg, fun x c h j hj => by simpa [voteR, cntC] using h j hj⟩
 | r :: rs, tab, hl, hg, hr, h => by
   rw [voteR] at h ⊢
   split at h
   ·rename_i h1
    rw [if_pos h1]
    obtain ⟨k1, k2, k3⟩ := voteJ_spec r k (by omega) h1
    have hgr := hr r (.head _)
    have hgj : ∀ j, GoodP n ((voteJ r k tab).1.getD j []) := fun j => by
     by_cases hj : k < j ∨ j = 0
     ·rw [k2 j hj]; exact hg j
     ·obtain ⟨i, rfl⟩ : ∃ i, j = i + 1 := ⟨j - 1, by omega⟩
      obtain ⟨e1, e2, e3⟩ := k3 i (by omega)
      rw [e3]
      exact (plus_good (hg _) (prod_good hn (hg _) hgr e1).1 e2).1
    obtain ⟨m1, m2⟩ := voteR_spec hn k rs (by rw [k1, hl]) hgj (fun r hr' => hr r (.tail _ hr')) h
    refine ⟨m1, fun x c hc j hj => ?_⟩
    by_cases hrx : (r.any fun t => subS t x) = true
    ·have hcr : Cov r x := (any_cov hgr.1.val x).1 hrx
     have ec : cntC x (r :: rs) = cntC x rs + 1 := by simp [cntC, List.filter_cons, hrx]
     rw [ec, m2 x (c + 1) (fun j hj => ?_) j hj]
     ·omega
     ·by_cases hj0 : j = 0
      ·subst hj0
       rw [k2 0 (.inr rfl), hc 0 (by omega)]; omega
      ·obtain ⟨i, rfl⟩ : ∃ i, j = i + 1 := ⟨j - 1, by omega⟩
       obtain ⟨e1, e2, e3⟩ := k3 i (by omega)
       rw [e3, (plus_good (hg _) (prod_good hn (hg _) hgr e1).1 e2).2 x, (prod_good hn (hg _) hgr e1).2 x, hc (i + 1) (by omega), hc i (by omega)]
       simp only [hcr, and_true]
       omega
    ·have hcr : ¬ Cov r x := fun h => hrx ((any_cov hgr.1.val x).2 h)
     have ec : cntC x (r :: rs) = cntC x rs := by simp [cntC, List.filter_cons, hrx]
     rw [ec, m2 x c (fun j hj => ?_) j hj]
     by_cases hj0 : j = 0
     ·subst hj0
      rw [k2 0 (.inr rfl), hc 0 (by omega)]
     ·obtain ⟨i, rfl⟩ : ∃ i, j = i + 1 := ⟨j - 1, by omega⟩
      obtain ⟨e1, e2, e3⟩ := k3 i (by omega)
      rw [e3, (plus_good (hg _) (prod_good hn (hg _) hgr e1).1 e2).2 x, (prod_good hn (hg _) hgr e1).2 x, hc (i + 1) (by omega)]
      simp only [hcr, and_false, or_false]
   ·rename_i h1; exact absurd h h1
theorem tab0_getD (k j : Nat) : (tab0 k).getD j [] = if j = 0 then [0] else [] := by
 unfold tab0
 by_cases hj : j = 0
 ·subst hj
  rw [getD_set_at (by simp), if_pos rfl]
 ·rw [qA6 (by omega), if_neg hj, List.getD_eq_getElem?_getD, List.getElem?_replicate]
  split <;> rfl
theorem cov_nil (x : Int) : ¬ Cov [] x := fun ⟨_, h, _⟩ => by cases h
theorem cov_zero (x : Int) : Cov [0] x := ⟨0, .head _, bit0 x⟩
theorem voteP_good (hn : n ≤ 24) {rs : List LS} {k : Nat} (hr : ∀ r ∈ rs, GoodP n r) (h : (voteP rs k).2 = 0) : GoodP n (voteP rs k).1 /\ ∀ x, Cov (voteP rs k).1 x ↔ k ≤ cntC x rs := by
 unfold voteP at h ⊢
 split at h
 ·rename_i h1
  rw [if_pos h1]
  have h0 : ∀ j, GoodP n ((tab0 k).getD j []) := fun j => by
   rw [tab0_getD]; split
   ·exact GoodP.zero
   ·exact GoodP.nil
  obtain ⟨m1, m2⟩ := voteR_spec hn k rs (by simp [tab0]) h0 hr h1
  refine ⟨m1 k, fun x => ?_⟩
  have := m2 x 0 (fun j hj => ?_) k (Nat.le_refl _)
  ·rw [Nat.zero_add] at this; exact this
  ·rw [tab0_getD]
   split
   ·rename_i h; subst h; simp [cov_zero]
   ·rename_i h; constructor
    ·intro hc; exact absurd hc (cov_nil x)
    ·intro hc; omega
 ·rename_i h1; exact absurd h h1
theorem filt_two {α : Type} (p : α -> Bool) : ∀ l : List α, (l.filter p).length + (l.filter fun a => !p a).length = l.length
 | [] => rfl
 | a :: l => by
   have := filt_two p l
   simp only [List.filter_cons]
   cases p a <;> simp <;> omega
theorem node_good (hn : n ≤ 24) {X : NodeP} {R : Int -> LS} {v : List Bool} {x : Int} (hk : X.kind = 0 /\ (X.k = 0 ∨ X.k = 1) ∨ X.kind = 2 ∨ X.kind = 3 ∨ X.kind = 4 /\ 1 ≤ X.k /\ X.k ≤ X.args.length)
  (hr : ∀ a ∈ X.args, GoodP n (R a)) (h : (qZ9 X.kind X.k (X.args.map R)).2 = 0) : GoodP n (qZ9 X.kind X.k (X.args.map R)).1 /\ ((∀ a ∈ X.args, (Cov (R a) x ↔ v.getD a.toNat false = false)) -> (Cov (qZ9 X.kind X.k (X.args.map R)).1 x ↔ nodeV X (cntT v X.args) = false)) := by
 have hrr : ∀ r ∈ X.args.map R, GoodP n r := fun r hr' => by
  obtain ⟨a, ha, rfl⟩ := List.mem_map.1 hr'
  exact hr a ha
 obtain ⟨kind, k, args⟩ := X
 simp only at hk hr h hrr ⊢
 rcases hk with ⟨rfl, hk⟩ | rfl | rfl | ⟨rfl, hk1, hk2⟩
 ·rcases hk with rfl | rfl
  ·have e : qZ9 0 0 (args.map R) = ([0], 0) := by simp [qZ9]
   rw [e]
   exact ⟨GoodP.zero, fun _ => by simp [nodeV, cov_zero]⟩
  ·have e : qZ9 0 1 (args.map R) = ([], 0) := by simp [qZ9]
   rw [e]
   exact ⟨GoodP.nil, fun _ => by simp [nodeV, cov_nil]⟩
 ·have e : qZ9 2 k (args.map R) = qB1 qX8 (args.map R) [] := by simp [qZ9]
  rw [e] at h ⊢
  obtain ⟨g1, g2⟩ := foldP_plus _ GoodP.nil hrr h
  refine ⟨g1, fun hc => ?_⟩
  rw [g2 x]
  simp only [cov_nil, false_or, nodeV, Int.reduceEq, if_false, if_true, decide_eq_false_iff_not]
  rw [cntT_all]
  constructor
  ·rintro ⟨r, hr', hx⟩ hall
   obtain ⟨a, ha, rfl⟩ := List.mem_map.1 hr'
   have := (hc a ha).1 hx
   rw [hall a ha] at this; cases this
  ·intro hne
   have : ∃ a ∈ args, v.getD a.toNat false = false := Classical.byContradiction fun hno => hne fun a ha => by
    cases hb : v.getD a.toNat false with
    | true => rfl
    | false => exact absurd ⟨a, ha, hb⟩ hno
   obtain ⟨a, ha, hb⟩ := this
   exact ⟨R a, List.mem_map.2 ⟨a, ha, rfl⟩, (hc a ha).2 hb⟩
 ·have e : qZ9 3 k (args.map R) = qB1 qJ7 (args.map R) [0] := by simp [qZ9]
  rw [e] at h ⊢
  obtain ⟨g1, g2⟩ := foldP_prod hn _ GoodP.zero hrr h
  refine ⟨g1, fun hc => ?_⟩
  rw [g2 x]
  simp only [cov_zero, true_and, nodeV, Int.reduceEq, if_false, if_true, decide_eq_false_iff_not]
  rw [cntT_pos]
  constructor
  ·rintro hall ⟨a, ha, hb⟩
   have := (hc a ha).1 (hall _ (List.mem_map.2 ⟨a, ha, rfl⟩))
   rw [hb] at this; cases this
  ·intro hne r hr'
   obtain ⟨a, ha, rfl⟩ := List.mem_map.1 hr'
   refine (hc a ha).2 ?_
   cases hb : v.getD a.toNat false with
   | false => rfl
   | true => exact absurd ⟨a, ha, hb⟩ hne
 ·have e : qZ9 4 k (args.map R) = voteP (args.map R) ((args.length : Int) - k + 1).toNat := by simp [qZ9]
  rw [e] at h ⊢
  obtain ⟨g1, g2⟩ := voteP_good hn hrr h
  refine ⟨g1, fun hc => ?_⟩
  rw [g2 x]
  simp only [nodeV, Int.reduceEq, if_false, if_true, decide_eq_false_iff_not]
  have ec : (cntC x (args.map R) : Int) = args.length - cntT v args := by
   unfold cntC cntT
   rw [List.filter_map, List.length_map]
   have e1 : args.filter ((fun r : LS => r.any fun t => subS t x) ∘ R) = args.filter fun a => !v.getD a.toNat false := by
    refine List.filter_congr fun a ha => ?_
    have h1 := any_cov (hr a ha).1.val x
    have h2 := hc a ha
    simp only [Function.comp_apply]
    cases hb : v.getD a.toNat false with
    | false => exact h1.2 (h2.2 hb)
    | true =>
      cases hx : ((R a).any fun t => subS t x) with
      | false => rfl
      | true => rw [h2.1 (h1.1 hx)] at hb; cases hb
   rw [e1]
   have := filt_two (fun a : Int => v.getD a.toNat false) args
   omega
  have := cntT_rng v args
  omega
theorem limE_err (l : LS) : limE l = 0 ∨ limE l = 4 := by
 unfold limE; split
 ·exact .inr rfl
 ·exact .inl rfl
theorem plus_err {a b : LS} (ha : GoodP n a) (hb : GoodP n b) : (qX8 a b).2 = 0 ∨ (qX8 a b).2 = 4 := by
 unfold qX8
 rw [if_pos (bothE_zero ha.1.len hb.1.len ha.1.val hb.1.val)]
 exact limE_err _
theorem prod_err {a b : LS} (ha : GoodP n a) (hb : GoodP n b) : (qJ7 a b).2 = 0 ∨ (qJ7 a b).2 = 4 := by
 unfold qJ7
 rw [if_pos (bothE_zero ha.1.len hb.1.len ha.1.val hb.1.val)]
 exact limE_err _
theorem foldP_err {op : LS -> LS -> LS × Int} (h1 : ∀ a b, GoodP n a -> GoodP n b -> (op a b).2 = 0 ∨ (op a b).2 = 4) (h2 : ∀ a b, GoodP n a -> GoodP n b -> (op a b).2 = 0 -> GoodP n (op a b).1) : ∀ (rs : List LS) {acc : LS}, GoodP n acc -> (∀ r ∈ rs, GoodP n r) -> (qB1 op rs acc).2 = 0 ∨ (qB1 op rs acc).2 = 4
 | [], acc, _, _ => .inl rfl
 | r :: rs, acc, ha, hr => by
   rw [qB1]
   split
   ·rename_i h
    exact foldP_err h1 h2 rs (h2 _ _ ha (hr r (.head _)) h) fun r hr' => hr r (.tail _ hr')
   ·exact h1 _ _ ha (hr r (.head _))
theorem getD_set_any {α : Type} {l : List α} {x d : α} {i j : Nat} (P : α -> Prop) (h1 : P x) (h2 : P (l.getD j d)) : P ((l.set i x).getD j d) := by
 by_cases hij : i = j
 ·subst hij
  by_cases hi : i < l.length
  ·rw [getD_set_at hi]; exact h1
  ·rw [List.getD_eq_getElem?_getD, List.set_eq_of_length_le (by omega)]
   rw [List.getD_eq_getElem?_getD] at h2; exact h2
 ·rw [qA6 hij]; exact h2
theorem voteJ_err (hn : n ≤ 24) {row : LS} (hr : GoodP n row) : ∀ (j : Nat) {tab : List LS}, (∀ j, GoodP n (tab.getD j [])) -> ((voteJ row j tab).2 = 0 ∨ (voteJ row j tab).2 = 4) /\ ((voteJ row j tab).2 = 0 -> ∀ j', GoodP n ((voteJ row j tab).1.getD j' []))
 | 0, tab, h => ⟨.inl rfl, fun _ => h⟩
 | j + 1, tab, h => by
   rw [voteJ]
   split
   ·rename_i h1
    have g1 := (prod_good hn (h j) hr h1).1
    split
    ·rename_i h2
     have g2 := (plus_good (h (j + 1)) g1 h2).1
     exact voteJ_err hn hr j fun j' => getD_set_any _ g2 (h j')
    ·rename_i h2
     exact ⟨plus_err (h (j + 1)) g1, fun h => absurd h h2⟩
   ·rename_i h1
    exact ⟨prod_err (h j) hr, fun h => absurd h h1⟩
theorem voteR_err (hn : n ≤ 24) (k : Nat) : ∀ (rs : List LS) {tab : List LS}, (∀ j, GoodP n (tab.getD j [])) -> (∀ r ∈ rs, GoodP n r) -> (voteR k rs tab).2 = 0 ∨ (voteR k rs tab).2 = 4
 | [], tab, _, _ => .inl rfl
 | r :: rs, tab, h, hr => by
   rw [voteR]
   obtain ⟨e1, e2⟩ := voteJ_err hn (hr r (.head _)) k h
   split
   ·rename_i h1
    exact voteR_err hn k rs (e2 h1) fun r hr' => hr r (.tail _ hr')
   ·exact e1
theorem tab0_good (k j : Nat) : GoodP n ((tab0 k).getD j []) := by
 rw [tab0_getD]; split
 ·exact GoodP.zero
 ·exact GoodP.nil
theorem node_err (hn : n ≤ 24) (kind k : Int) {rs : List LS} (hr : ∀ r ∈ rs, GoodP n r) : (qZ9 kind k rs).2 = 0 ∨ (qZ9 kind k rs).2 = 4 := by
 unfold qZ9
 split
 ·exact .inl rfl
 split
 ·exact foldP_err (fun a b ha hb => prod_err ha hb) (fun a b ha hb h => (prod_good hn ha hb h).1) rs GoodP.zero hr
 split
 ·exact foldP_err (fun a b ha hb => plus_err ha hb) (fun a b ha hb h => (plus_good ha hb h).1) rs GoodP.nil hr
 unfold voteP
 have := voteR_err hn ((rs.length : Int) - k + 1).toNat rs (tab := tab0 ((rs.length : Int) - k + 1).toNat) (fun j => tab0_good _ j) hr
 split
 ·exact .inl rfl
 ·exact this
end
end Go.Pu
end
section
namespace Go.Proofs.YtgoilpfpmbjegaaGreatDoor
open Go.Sy Go.Pu
variable [Drw]
theorem node_kind {f : FormP} (ok : FormOk f) (hc : cohF f = true) {q : Nat} (hq : q < f.nodes.length) (hm : (qZ2 f).getD (f.vars.toNat + q) false = true) :
  f.nodes[q].kind = 0 /\ (f.nodes[q].k = 0 ∨ f.nodes[q].k = 1) ∨ f.nodes[q].kind = 2 ∨ f.nodes[q].kind = 3 ∨ f.nodes[q].kind = 4 /\ 1 ≤ f.nodes[q].k /\ f.nodes[q].k ≤ f.nodes[q].args.length := by
 obtain ⟨c1, c5⟩ := coh_node hc hq hm
 have hkd := (ok.nodes q hq).kind
 have hkk := (ok.nodes q hq).k
 generalize f.nodes[q] = Y at *
 unfold kE at hkk
 by_cases k0 : Y.kind = 0
 ·rw [if_pos k0] at hkk
  split at hkk
  ·cases hkk
  ·exact .inl ⟨k0, by omega⟩
 ·rw [if_neg k0] at hkk
  by_cases k4 : Y.kind = 4
  ·rw [if_pos k4] at hkk
   split at hkk
   ·cases hkk
   ·exact .inr (.inr (.inr ⟨k4, by omega, by omega⟩))
  ·omega
theorem run_good {f : FormP} (ok : FormOk f) (hc : cohF f = true) {n : Nat} (hn : f.vars = n) : ∀ i, i ≤ f.nodes.length -> ((runR n f.nodes (qZ2 f) i).2 = 0 ∨ (runR n f.nodes (qZ2 f) i).2 = 4) /\ ((runR n f.nodes (qZ2 f) i).2 = 0 -> (runR n f.nodes (qZ2 f) i).1.length = f.nodes.length /\
  ∀ a : Nat, a < n + i -> (qZ2 f).getD a false = true -> GoodP n (argR n (runR n f.nodes (qZ2 f) i).1 a) /\ ∀ s, inN n s -> (Cov (argR n (runR n f.nodes (qZ2 f) i).1 a) (qQ4 .i64 (allN n) s) ↔ (valsF f s).getD a false = false))
 | 0, _ => by
   have hv := ok.vars
   have hn24 : n ≤ 24 := by omega
   refine ⟨.inl rfl, fun _ => ⟨by simp [runR], fun a ha _ => ?_⟩⟩
   have e : argR n (runR n f.nodes (qZ2 f) 0).1 (a : Int) = [Go.Pu.one a] := by rw [argR, if_pos (by omega), Int.toNat_natCast]
   rw [e]
   refine ⟨GoodP.sgl hn24 (by omega), fun s hs => ?_⟩
   rw [valsF_event f s (by omega)]
   have h1 : Cov [Go.Pu.one a] (qQ4 .i64 (allN n) s) ↔ Part (Go.Pu.one a) (qQ4 .i64 (allN n) s) := by simp [Cov]
   rw [h1, part_one (by omega), qZ4, bit_allN hn24, decide_eq_true (show a < n by omega)]
   cases bit s a <;> simp
 | i + 1, hi => by
   have hv := ok.vars
   have hn24 : n ≤ 24 := by omega
   have hnn : f.vars.toNat = n := by omega
   have hi' : i < f.nodes.length := by omega
   obtain ⟨ih1, ih2⟩ := run_good ok hc hn i (by omega)
   have e2 := runR_succ n f.nodes (qZ2 f) i
   have hX : f.nodes.getD i qX1 = f.nodes[i] := by simp [List.getD_eq_getElem?_getD, show i < f.nodes.length by omega]
   by_cases h0 : (runR n f.nodes (qZ2 f) i).2 = 0
   ·obtain ⟨hlen, hrel⟩ := ih2 h0
    rw [if_pos h0] at e2
    by_cases hm : (qZ2 f).getD (n + i) false = true
    ·rw [if_pos hm, hX] at e2
     have hk := node_kind ok hc (q := i) hi' (by rw [hnn]; exact hm)
     have hcl := below_closed ok i hi' (by rw [hnn]; exact hm)
     have hval := fun s => valsF_node ok s (q := i) hi'
     rw [hnn] at hcl hval
     clear ih1 ih2
     generalize hRR : runR n f.nodes (qZ2 f) i = RR at h0 hlen hrel e2
     obtain ⟨tab, er⟩ := RR
     simp only at h0 hlen hrel e2
     generalize f.nodes[i] = X at hk hcl hval e2
     have hga : ∀ a ∈ X.args, GoodP n (argR n tab a) := fun a ha => by
      obtain ⟨c1, c2, c3⟩ := hcl a ha
      have := (hrel a.toNat c3 c1).1
      rwa [Int.toNat_of_nonneg c2] at this
     have herr := node_err hn24 X.kind X.k (rs := X.args.map (argR n tab)) fun r hr => by
      obtain ⟨a, ha, rfl⟩ := List.mem_map.1 hr
      exact hga a ha
     by_cases hp0 : (qZ9 X.kind X.k (X.args.map (argR n tab))).2 = 0
     ·rw [if_pos hp0] at e2
      rw [e2]
      refine ⟨.inl rfl, fun _ => ⟨by simp [hlen], fun a ha hma => ?_⟩⟩
      by_cases hai : a = n + i
      ·subst hai
       have e4 : argR n (tab.set i (qZ9 X.kind X.k (X.args.map (argR n tab))).1) ((n + i : Nat) : Int) = (qZ9 X.kind X.k (X.args.map (argR n tab))).1 := by
        rw [argR, if_neg (by omega), show Int.toNat (((n + i : Nat) : Int) - (n : Int)) = i by omega, getD_set_at (by omega)]
       rw [e4]
       refine ⟨(node_good (x := 0) (v := []) hn24 hk hga hp0).1, fun s hs => ?_⟩
       rw [hval s]
       refine (node_good (x := qQ4 .i64 (allN n) s) (v := valsF f s) hn24 hk hga hp0).2 fun a ha => ?_
       obtain ⟨c1, c2, c3⟩ := hcl a ha
       have := (hrel a.toNat c3 c1).2 s hs
       rwa [Int.toNat_of_nonneg c2] at this
      ·have e4 : argR n (tab.set i (qZ9 X.kind X.k (X.args.map (argR n tab))).1) (a : Int) = argR n tab a := by
        unfold argR
        by_cases han : (a : Int) < n
        ·rw [if_pos han, if_pos han]
        ·rw [if_neg han, if_neg han]
         exact qA6 (by omega)
       rw [e4]
       exact hrel a (by omega) hma
     ·rw [if_neg hp0] at e2
      rw [e2]
      exact ⟨herr, fun h => absurd h hp0⟩
    ·rw [if_neg hm] at e2
     rw [e2]
     refine ⟨ih1, fun _ => ⟨hlen, fun a ha hma => ?_⟩⟩
     by_cases hai : a = n + i
     ·subst hai; exact absurd hma hm
     ·exact hrel a (by omega) hma
   ·rw [if_neg h0] at e2
    rw [e2]
    exact ⟨ih1, fun h => absurd h h0⟩
theorem path_facts {f : FormP} {n : Nat} (h1 : qV7 f = 0) (hn : f.vars = n) : (pathsE f = 0 ∨ pathsE f = 4) /\ (pathsE f = 0 -> GoodP n (qW5 f) /\ (∀ s, inN n s -> (Cov (qW5 f) (qQ4 .i64 (allN n) s) ↔ qJ5 f s = false)) /\
  ∀ t ∈ qW5 f, minV f t true = true /\ qK6 f t = 0) := by
 obtain ⟨h0, hc⟩ := pathE_ok h1
 have ok := qY1 h0
 have hv := ok.vars
 have htop := ok.top
 have hn24 : n ≤ 24 := by omega
 have hnn : f.vars.toNat = n := by omega
 obtain ⟨p1, p2⟩ := paths_run ok hc h0
 obtain ⟨r1, r2⟩ := run_good ok hc hn f.nodes.length (Nat.le_refl _)
 rw [hnn] at p1 p2
 rw [p1]
 refine ⟨r1, fun hz => ?_⟩
 obtain ⟨_, r3⟩ := r2 hz
 obtain ⟨g1, g2⟩ := r3 f.top.toNat (by omega) (marksF_top ok _)
 rw [Int.toNat_of_nonneg htop.1, <-p2 hz] at g1 g2
 refine ⟨g1, g2, fun t ht => ?_⟩
 have htn := g1.2 t ht
 have htn' := (inN_iff hn24).1 htn
 have hE : qK6 f t = 0 := by rw [qK6, if_pos h1, if_pos ⟨htn'.1, by rw [hn, qC4]; exact htn'.2⟩]
 refine ⟨?_, hE⟩
 have hdbl : ∀ x, inN n x -> qQ4 .i64 (allN n) (qQ4 .i64 (allN n) x) = x := fun x hx => inN.ext (qW7 hn24 (inN_allN hn24)) hx fun i hi => by
  rw [qZ4, qZ4, bit_allN hn24, decide_eq_true hi]
  simp
 have hP : ∀ x, inN n x -> (isP f x true = true ↔ Cov (qW5 f) x) := fun x hx => by
  have := g2 _ (qW7 (y := x) hn24 (inN_allN hn24))
  rw [hdbl x hx] at this
  rw [isP_path hn, Bool.not_eq_true']
  exact this.symm
 rw [minV, hE, hnn]
 simp only [decide_true, Bool.true_and]
 refine minP_iff.2 ⟨(hP t htn).2 ⟨t, ht, Part.refl t⟩, fun i hi hb => ?_⟩
 cases hpp : isP f (qQ4 .i64 t (Go.Pu.one i)) true with
 | false => rfl
 | true =>
   exfalso
   obtain ⟨u, hu, hup⟩ := (hP _ (qW7 hn24 htn)).1 hpp
   have hut : Part u t := hup.trans (part_iandNot _ _)
   have ht' := ht
   rw [<-g1.1.min] at ht'
   have e := ((mem_minS g1.1.val t).1 ht').2 u hu hut
   subst e
   have := hup i hb
   rw [qZ4, one_bit (by omega)] at this
   simp at this
theorem iand_part0 {n : Nat} {t s : Int} (ht : inN n t) (hs : inN n s) (hn : n ≤ 24) : qK9 .i64 t s = 0 ↔ Part t (qQ4 .i64 (allN n) s) := by
 rw [iand_zero']
 constructor
 ·intro h i hb
  have hi : i < n := Nat.lt_of_not_le fun h' => by rw [ht.2 i h'] at hb; cases hb
  have := h i (by omega)
  rw [hb, Bool.true_and] at this
  rw [qZ4, bit_allN hn, decide_eq_true hi, this]; rfl
 ·intro h i hi
  cases hb : bit t i with
  | false => rfl
  | true =>
    have := h i hb
    rw [qZ4, Bool.and_eq_true] at this
    simpa using this.2
def K6 : Fns := (48, fFI (fun f s => .tup [bV (valV f s), eV (qB5 f s)]) fun f s => FormIn f) ::
 K5
theorem K6_ok : FnsOk Tryz.prog K6 := .cons (K5_ok) Tryz.func48 rfl rfl (fFI_ok fun f s h => value_does f s h)
theorem hit_facts {f : FormP} {n : Nat} (h1 : qV7 f = 0) (hn : f.vars = n) (hz : pathsE f = 0) (hh : hitE (qW5 f) = 0) : (∀ x, inN n x -> (Cov (hitL (qW5 f)) x ↔ qJ5 f x = true)) /\ Fam (hitL (qW5 f)) /\ ∀ t ∈ hitL (qW5 f), minV f t false = true /\ qK6 f t = 0 := by
 obtain ⟨h0, hc⟩ := pathE_ok h1
 have hv := (qY1 h0).vars
 have hn24 : n ≤ 24 := by omega
 have hnn : f.vars.toNat = n := by omega
 obtain ⟨g1, g2, _⟩ := (path_facts h1 hn).2 hz
 generalize qW5 f = L at *
 have hcut : ∀ x, inN n x -> (qJ5 f x = true ↔ Hit L x) := fun x hx => by
  have h2 := g2 x hx
  constructor
  ·intro hv t ht hz
   rw [h2.1 ⟨t, ht, (iand_part0 (g1.2 t ht) hx hn24).1 hz⟩] at hv; cases hv
  ·intro hit
   cases hb : qJ5 f x with
   | true => rfl
   | false =>
     obtain ⟨t, ht, hp⟩ := h2.2 hb
     exact absurd ((iand_part0 (g1.2 t ht) hx hn24).2 hp) (hit t ht)
 refine ⟨fun x hx => by rw [hit_cov hh x, hcut x hx], hit_fam hh, fun t ht => ?_⟩
 have hm := hit_min hh ht
 have hle := (hitE_zero hh).1
 unfold minHit leastHit at hm
 rw [Bool.and_eq_true, List.all_eq_true] at hm
 obtain ⟨m1, m2⟩ := hm
 have hmeet : ∀ s, qQ6 s = true -> (meetB L s = true ↔ Hit L s) := fun s hs => by
  simp only [meetB, hle, hs, decide_true, Bool.true_and, Bool.not_eq_true', List.any_eq_false, decide_eq_true_eq]
  rfl
 have htv : qQ6 t = true := (hit_fam hh).val t ht
 have hht : Hit L t := (hmeet t htv).1 m1
 have hleast : ∀ i, i < 24 -> bit t i = true -> ¬ Hit L (qQ4 .i64 t (Go.Pu.one i)) := fun i hi hb hit => by
  have := m2 i (by simpa using hi)
  rw [hb, (hmeet _ (qD7 htv)).2 hit] at this
  exact absurd this (by decide)
 have htn : inN n t := ⟨htv, fun i hi => by
  cases hb : bit t i with
  | false => rfl
  | true =>
    have hi24 : i < 24 := Nat.lt_of_not_le fun h' => by rw [qA1 htv h'] at hb; cases hb
    refine absurd (fun u hu hz => hht u hu ?_) (hleast i hi24 hb)
    rw [iand_zero'] at hz ⊢
    intro j hj
    have h3 := hz j hj
    rw [qZ4, one_bit hi24] at h3
    by_cases hij : i = j
    ·subst hij
     rw [(g1.2 u hu).2 i hi]; rfl
    ·simpa [hij] using h3⟩
 have htn' := (inN_iff hn24).1 htn
 have hE : qK6 f t = 0 := by rw [qK6, if_pos h1, if_pos ⟨htn'.1, by rw [hn, qC4]; exact htn'.2⟩]
 refine ⟨?_, hE⟩
 rw [minV, hE, hnn]
 simp only [decide_true, Bool.true_and]
 refine minP_iff.2 ⟨by rw [isP_cut]; exact (hcut t htn).2 hht, fun i hi hb => ?_⟩
 rw [isP_cut]
 cases hpp : qJ5 f (qQ4 .i64 t (Go.Pu.one i)) with
 | false => rfl
 | true => exact absurd ((hcut _ (qW7 hn24 htn)).1 hpp) (hleast i (by omega) hb)
end Go.Proofs.YtgoilpfpmbjegaaGreatDoor
end
section
namespace Go.Pu
open Go.Sy
variable [Drw]
inductive Tr where
 | nd (v r : Int) (n : Nat) (f : Fin n -> Tr)
def Tr.v : Tr -> Int | .nd v _ _ _ => v
def Tr.r : Tr -> Int | .nd _ r _ _ => r
def Tr.n : Tr -> Nat | .nd _ _ n _ => n
def Tr.no : Tr := .nd 0 0 0 fun i => i.elim0
def Tr.k : Tr -> Nat -> Tr | .nd _ _ n f => fun i => if h : i < n then f ⟨i, h⟩ else .no
def Tr.of (v r : Int) (n : Nat) (g : Nat -> Tr) : Tr := .nd v r n fun i => g i
@[simp] theorem Tr.v_of (v r : Int) (n : Nat) (f : Nat -> Tr) : (Tr.of v r n f).v = v := rfl
@[simp] theorem Tr.r_of (v r : Int) (n : Nat) (f : Nat -> Tr) : (Tr.of v r n f).r = r := rfl
@[simp] theorem Tr.n_of (v r : Int) (n : Nat) (f : Nat -> Tr) : (Tr.of v r n f).n = n := rfl
theorem Tr.k_of {v r : Int} {n : Nat} {f : Nat -> Tr} {i : Nat} (h : i < n) : (Tr.of v r n f).k i = f i := by
 show (if h : i < n then f (⟨i, h⟩ : Fin n) else Tr.no) = f i
 rw [dif_pos h]
theorem Tr.ind {M : Tr -> Prop} (h : ∀ t : Tr, (∀ i, i < t.n -> M (t.k i)) -> M t) (t : Tr) : M t := by
 induction t with
 | nd v r n f ih =>
   refine h _ fun i hi => ?_
   show M (if h : i < n then f ⟨i, h⟩ else Tr.no)
   rw [dif_pos (show i < n from hi)]
   exact ih _
theorem Tr.ext {a : Tr} : ∀ {b : Tr}, a.v = b.v -> a.r = b.r -> a.n = b.n -> (∀ i, i < a.n -> a.k i = b.k i) -> a = b := by
 cases a with
 | nd v r n f =>
   intro b
   cases b with
   | nd v' r' n' f' =>
     intro h1 h2 h3 h4
     obtain rfl : v = v' := h1
     obtain rfl : r = r' := h2
     obtain rfl : n = n' := h3
     congr 1
     funext ⟨i, hi⟩
     have := h4 i hi
     simpa [Tr.k, hi] using this
def Tr.two (v : Int) (a b : Tr) : Tr := .of v 0 2 fun i => match i with
 | 0 => a
 | _ => b
def Tr.lf (r : Int) : Tr := .nd 0 r 0 fun i => i.elim0
@[simp] theorem Tr.v_two (v : Int) (a b : Tr) : (Tr.two v a b).v = v := rfl
@[simp] theorem Tr.r_two (v : Int) (a b : Tr) : (Tr.two v a b).r = 0 := rfl
@[simp] theorem Tr.n_two (v : Int) (a b : Tr) : (Tr.two v a b).n = 2 := rfl
@[simp] theorem Tr.k_two0 (v : Int) (a b : Tr) : (Tr.two v a b).k 0 = a := rfl
@[simp] theorem Tr.k_two1 (v : Int) (a b : Tr) : (Tr.two v a b).k 1 = b := rfl
@[simp] theorem Tr.v_lf (r : Int) : (Tr.lf r).v = 0 := rfl
@[simp] theorem Tr.r_lf (r : Int) : (Tr.lf r).r = r := rfl
@[simp] theorem Tr.n_lf (r : Int) : (Tr.lf r).n = 0 := rfl
@[simp] theorem Tr.v_no : Tr.no.v = 0 := rfl
@[simp] theorem Tr.r_no : Tr.no.r = 0 := rfl
@[simp] theorem Tr.n_no : Tr.no.n = 0 := rfl
def Tr.kf : Tr -> Nat -> Nat -> CV
 | .nd _ _ n f => fun e q => if h : e < n then (match q with
   | 0 => .lit (.int .i64 (f ⟨e, h⟩).v)
   | 1 => .sl (f ⟨e, h⟩).n 3 (f ⟨e, h⟩).kf
   | _ => .lit (.int .i64 (f ⟨e, h⟩).r)) else .lit undef
def Tr.ks (t : Tr) : CV := .sl t.n 3 t.kf
def trC (t : Tr) : List CV := [.lit (.int .i64 t.v), t.ks, .lit (.int .i64 t.r)]
abbrev trV (t : Tr) : EV := .ag (trC t)
def Tr.cell (t : Tr) (q : Nat) : CV := match q with
 | 0 => .lit (.int .i64 t.v)
 | 1 => t.ks
 | _ => .lit (.int .i64 t.r)
@[simp] theorem Tr.cell_0 (t : Tr) : t.cell 0 = .lit (.int .i64 t.v) := rfl
@[simp] theorem Tr.cell_1 (t : Tr) : t.cell 1 = t.ks := rfl
@[simp] theorem Tr.cell_2 (t : Tr) : t.cell 2 = .lit (.int .i64 t.r) := rfl
theorem Tr.kf_eq {t : Tr} {e : Nat} (h : e < t.n) (q : Nat) : t.kf e q = (t.k e).cell q := by
 cases t with
 | nd v r n f =>
   have h' : e < n := h
   have ek : (Tr.nd v r n f).k e = f ⟨e, h'⟩ := by simp [Tr.k, h']
   rw [ek, Tr.kf]
   simp only [h', dif_pos]
   exact match q with | 0 => rfl | 1 => rfl | _ + 2 => rfl
def Tr.ksx (t : Tr) : CV := .sl t.n 3 fun e q => (t.k e).cell q
theorem Tr.ks_x (t : Tr) : CVEq t.ks t.ksx := ⟨rfl, .inr ⟨rfl, fun e q he _ => by rw [Tr.kf_eq he]; exact CVEq.refl _⟩⟩
def trX (t : Tr) : List CV := [.lit (.int .i64 t.v), t.ksx, .lit (.int .i64 t.r)]
def Tr.In : Tr -> Prop
 | .nd v r n f => inK .i64 v /\ inK .i64 r /\ ∀ i, (f i).In
theorem Tr.in_iff (t : Tr) : t.In ↔ inK .i64 t.v /\ inK .i64 t.r /\ ∀ i, i < t.n -> (t.k i).In := by
 cases t with
 | nd v r n f =>
   have e : ∀ i (h : i < n), (Tr.nd v r n f).k i = f ⟨i, h⟩ := fun i h => by simp [Tr.k, h]
   constructor
   ·rintro ⟨h1, h2, h3⟩
    exact ⟨h1, h2, fun i hi => by rw [e i hi]; exact h3 _⟩
   ·rintro ⟨h1, h2, h3⟩
    exact ⟨h1, h2, fun ⟨i, hi⟩ => by have := h3 i hi; rwa [e i hi] at this⟩
end Go.Pu
namespace Go.Sy
open Go.Pu
variable [Drw]
def lenC : CV -> Nat
 | .sl n _ _ => n
 | _ => 0
def unKs : CV -> Nat -> Tr
 | .sl _ _ f => fun e => .of (cvInt (f e 0)) (cvInt (f e 2)) (lenC (f e 1)) (unKs (f e 1))
 | _ => fun _ => .no
def unTr (a : Int) (x : CV) (b : Int) : Tr := .of a b (lenC x) (unKs x)
def isKs (x : CV) : Prop := CVEq x (unTr 0 x 0).ks
theorem unTr_ks (t : Tr) : unTr t.v t.ks t.r = t := by
 induction t using Tr.ind with
 | h t ih =>
   refine Tr.ext rfl rfl rfl fun i hi => ?_
   have hi' : i < t.n := hi
   rw [show unTr t.v t.ks t.r = Tr.of t.v t.r t.n (unKs t.ks) from rfl, Tr.k_of hi']
   have e : unKs t.ks i = unTr (t.k i).v (t.k i).ks (t.k i).r := by
    show Tr.of (cvInt (t.kf i 0)) (cvInt (t.kf i 2)) (lenC (t.kf i 1)) (unKs (t.kf i 1)) = _
    rw [Tr.kf_eq hi', Tr.kf_eq hi', Tr.kf_eq hi']
    rfl
   rw [e]; exact ih i hi'
theorem unTr_n (a b : Int) (t : Tr) : (unTr a t.ks b).ks = t.ks := by
 have h := congrArg Tr.ks (unTr_ks t)
 exact h
@[simp] theorem qZ7 (t : Tr) : unTr t.v t.ks t.r = t := unTr_ks t
@[simp] theorem isKs_ks (t : Tr) : isKs t.ks := by unfold isKs; rw [unTr_n]; exact CVEq.refl _
theorem tr_eq {a b : Int} {x : CV} (h : isKs x) : EvEq (.ag [.lit (.int .i64 a), x, .lit (.int .i64 b)]) (trV (unTr a x b)) :=
 ⟨rfl, fun q y z hy hz => by
  match q, hy, hz with
  | 0, hy, hz => simp [trC] at hy hz; subst hy; subst hz; exact CVEq.refl _
  | 1, hy, hz => simp [trC] at hy hz; subst hy; subst hz; exact h
  | 2, hy, hz => simp [trC] at hy hz; subst hy; subst hz; exact CVEq.refl _
  | q + 3, hy, hz => simp at hy⟩
def fTI (g : Tr -> Int -> SV) (p : Tr -> Int -> Prop) : List EV -> Option (SV × Prop)
 | [.ag [.lit (.int .i64 a), x, .lit (.int .i64 b)], .c (.lit (.int .i64 s))] => some (g (unTr a x b) s, isKs x /\ p (unTr a x b) s)
 | _ => none
def fTII (g : Tr -> Int -> Int -> SV) (p : Tr -> Int -> Int -> Prop) : List EV -> Option (SV × Prop)
 | [.ag [.lit (.int .i64 a), x, .lit (.int .i64 b)], .c (.lit (.int .i64 s)), .c (.lit (.int .i64 t))] => some (g (unTr a x b) s t, isKs x /\ p (unTr a x b) s t)
 | _ => none
def fTIII (g : Tr -> Int -> Int -> Int -> SV) (p : Tr -> Int -> Int -> Int -> Prop) : List EV -> Option (SV × Prop)
 | [.ag [.lit (.int .i64 a), x, .lit (.int .i64 b)], .c (.lit (.int .i64 s)), .c (.lit (.int .i64 t)), .c (.lit (.int .i64 u))] => some (g (unTr a x b) s t u, isKs x /\ p (unTr a x b) s t u)
 | _ => none
def fTT (g : Tr -> Tr -> SV) (p : Tr -> Tr -> Prop) : List EV -> Option (SV × Prop)
 | [.ag [.lit (.int .i64 a), x, .lit (.int .i64 b)], .ag [.lit (.int .i64 c), y, .lit (.int .i64 d)]] => some (g (unTr a x b) (unTr c y d), isKs x /\ isKs y /\ p (unTr a x b) (unTr c y d))
 | _ => none
section
variable {P : Program} {f : FuncId}
theorem fTI_ok {g : Tr -> Int -> SV} {p : Tr -> Int -> Prop} (h : ∀ x s, p x s -> DoesF P f [trV x, iV s] [] (g x s) []) : ∀ ys y φ, fTI g p ys = some (y, φ) -> φ -> DoesF P f ys [] y [] := by
 intro ys y φ he hφ
 unfold fTI at he
 split at he
 ·simp only [Option.some.injEq, Prod.mk.injEq] at he
  obtain ⟨rfl, rfl⟩ := he
  refine DoesF.conv ?_ (h _ _ hφ.2)
  exact ⟨tr_eq hφ.1, CVEq.refl _, trivial⟩
 ·cases he
theorem fTII_ok {g : Tr -> Int -> Int -> SV} {p : Tr -> Int -> Int -> Prop} (h : ∀ x s t, p x s t -> DoesF P f [trV x, iV s, iV t] [] (g x s t) []) : ∀ ys y φ, fTII g p ys = some (y, φ) -> φ -> DoesF P f ys [] y [] := by
 intro ys y φ he hφ
 unfold fTII at he
 split at he
 ·simp only [Option.some.injEq, Prod.mk.injEq] at he
  obtain ⟨rfl, rfl⟩ := he
  refine DoesF.conv ?_ (h _ _ _ hφ.2)
  exact ⟨tr_eq hφ.1, CVEq.refl _, CVEq.refl _, trivial⟩
 ·cases he
theorem fTIII_ok {g : Tr -> Int -> Int -> Int -> SV} {p : Tr -> Int -> Int -> Int -> Prop} (h : ∀ x s t u, p x s t u -> DoesF P f [trV x, iV s, iV t, iV u] [] (g x s t u) []) : ∀ ys y φ, fTIII g p ys = some (y, φ) -> φ -> DoesF P f ys [] y [] := by
 intro ys y φ he hφ
 unfold fTIII at he
 split at he
 ·simp only [Option.some.injEq, Prod.mk.injEq] at he
  obtain ⟨rfl, rfl⟩ := he
  refine DoesF.conv ?_ (h _ _ _ _ hφ.2)
  exact ⟨tr_eq hφ.1, CVEq.refl _, CVEq.refl _, CVEq.refl _, trivial⟩
 ·cases he
theorem fTT_ok {g : Tr -> Tr -> SV} {p : Tr -> Tr -> Prop} (h : ∀ x s, p x s -> DoesF P f [trV x, trV s] [] (g x s) []) : ∀ ys y φ, fTT g p ys = some (y, φ) -> φ -> DoesF P f ys [] y [] := by
 intro ys y φ he hφ
 unfold fTT at he
 split at he
 ·simp only [Option.some.injEq, Prod.mk.injEq] at he
  obtain ⟨rfl, rfl⟩ := he
  refine DoesF.conv ?_ (h _ _ hφ.2.2)
  exact ⟨tr_eq hφ.1, tr_eq hφ.2.1, trivial⟩
 ·cases he
end
section
variable {P : Program} {A : St} {Q : Exit -> St -> Prop} {k : List K} {e : Exit}
theorem Sat.convG {o : Nat -> Tag} {h : Nat -> Value} {tm : Array Value} {w : World} (hs : Sat o h A tm w) {s : Nat} {xs ys : List CV} (hl : lk A.sl s = some (.e (.ag xs))) (hn : xs.length = ys.length) (he : ∀ (q : Nat) x y, xs[q]? = some x -> ys[q]? = some y -> CVEq x y) :
  Sat o h ⟨A.n, (s, .e (.ag ys)) :: A.sl, A.rs⟩ tm w := by
 refine ⟨hs.size, hs.tags, fun s' x' hl' => ?_, hs.res⟩
 rw [qQ3] at hl'
 split at hl'
 ·rename_i e; subst e; cases hl'
  obtain ⟨vs, hv, h1, h2⟩ := hs.slot s _ hl
  refine ⟨vs, hv, h1.trans hn, fun q y hq => ?_⟩
  have hlt : q < xs.length := by rw [hn]; exact (List.getElem?_eq_some_iff.1 hq).1
  obtain ⟨u, hu, hr⟩ := h2 q _ (List.getElem?_eq_getElem hlt)
  exact ⟨u, hu, RepV.conv (he q _ y (List.getElem?_eq_getElem hlt) hq) hr⟩
 ·exact hs.slot s' x' hl'
theorem KW.convG (s : Nat) {xs : List CV} (ys : List CV) (hl : lk A.sl s = some (.e (.ag xs))) (hn : xs.length = ys.length) (he : ∀ (q : Nat) x y, xs[q]? = some x -> ys[q]? = some y -> CVEq x y)
  (hk : KW P k e ⟨A.n, (s, .e (.ag ys)) :: A.sl, A.rs⟩ Q) : KW P k e A Q :=
 KW.weaken (fun o h tm w hs => ⟨o, h, hs.convG hl hn he, Ext.refl o w⟩) hk
theorem KW.lenT (s : Nat) (t : Tr) (hl : lk A.sl s = some (.e (trV t))) (hk : t.n ≤ 9223372036854775807 -> KW P k e A Q) : KW P k e A Q := by
 intro o h tm w hs
 obtain ⟨vs, _, _, h2⟩ := hs.slot s _ hl
 obtain ⟨u, _, hr⟩ := h2 1 t.ks rfl
 obtain ⟨a, cap, _, g1, g2, _⟩ := (show RepV o w (.sl t.n 3 t.kf) u from hr)
 exact hk (by simp only [maxLen] at g2; omega) o h tm w hs
theorem Sat.convB {o : Nat -> Tag} {h : Nat -> Value} {tm : Array Value} {w : World} (hs : Sat o h A tm w) {i q T : Nat} {cs : List EV} {bk : Option Nat} {x y : CV} (hi : lk A.rs i = some (.box T cs bk)) (hq : nth cs q = some (.c x)) (he : CVEq x y) :
  Sat o h ⟨A.n, A.sl, (i, .box T (setN cs q (.c y)) bk) :: A.rs⟩ tm w := by
 refine ⟨hs.size, hs.tags, hs.slot, fun j r hl => ?_⟩
 rw [qQ3] at hl
 split at hl
 ·rename_i e; subst e; cases hl
  obtain ⟨b, vs, h0, h1, h2, h3, h4, h5⟩ := hs.res i _ hi
  rw [nth_eq] at hq
  have hlt : q < cs.length := (List.getElem?_eq_some_iff.1 hq).1
  refine ⟨b, vs, h0, h1, h2, h3, by rw [setN_eq]; simpa using h4, fun p z hp => ?_⟩
  rw [setN_eq, List.getElem?_set] at hp
  split at hp
  ·rename_i e; subst e
   simp only [hlt, if_true, Option.some.injEq] at hp
   subst hp
   obtain ⟨u, hu, hone, hx⟩ := h5 q _ hq
   exact ⟨u, hu, hone, RepV.conv he hx⟩
  ·exact h5 p z hp
 ·exact hs.res j r hl
theorem KW.convB (i q : Nat) {T : Nat} {cs : List EV} {bk : Option Nat} {x : CV} (y : CV) (hi : lk A.rs i = some (.box T cs bk)) (hq : nth cs q = some (.c x)) (he : CVEq x y)
  (hk : KW P k e ⟨A.n, A.sl, (i, .box T (setN cs q (.c y)) bk) :: A.rs⟩ Q) : KW P k e A Q :=
 KW.weaken (fun o h tm w hs => ⟨o, h, hs.convB hi hq he, Ext.refl o w⟩) hk
theorem KW.open (s : Nat) (t : Tr) (hl : lk A.sl s = some (.e (trV t))) (hk : KW P k e ⟨A.n, (s, .e (.ag (trX t))) :: A.sl, A.rs⟩ Q) : KW P k e A Q :=
 KW.convG s (trX t) hl rfl (fun q x y hx hy => by
  match q, hx, hy with
  | 0, hx, hy => simp [trC, trX] at hx hy; subst hx; subst hy; exact CVEq.refl _
  | 1, hx, hy => simp [trC, trX] at hx hy; subst hx; subst hy; exact t.ks_x
  | 2, hx, hy => simp [trC, trX] at hx hy; subst hx; subst hy; exact CVEq.refl _
  | q + 3, hx, hy => simp [trC] at hx) hk
theorem KW.tree (s : Nat) (t : Tr) {x : CV} (hl : lk A.sl s = some (.e (.ag [.lit (.int .i64 t.v), x, .lit (.int .i64 t.r)]))) (hx : CVEq x t.ks) (hk : KW P k e ⟨A.n, (s, .e (trV t)) :: A.sl, A.rs⟩ Q) : KW P k e A Q :=
 KW.convG s (trC t) hl rfl (fun q y z hy hz => by
  match q, hy, hz with
  | 0, hy, hz => simp [trC] at hy hz; subst hy; subst hz; exact CVEq.refl _
  | 1, hy, hz => simp [trC] at hy hz; subst hy; subst hz; exact hx
  | 2, hy, hz => simp [trC] at hy hz; subst hy; subst hz; exact CVEq.refl _
  | q + 3, hy, hz => simp at hy) hk
end
end Go.Sy
end
section
namespace Go.Pu
open Go.Sy
variable [Drw]
def Tr.bin {α : Type} (L : Tr -> α) (N : Tr -> α -> α -> α) : Tr -> α
 | .nd v r n f => if h : n = 2 then N (.nd v r n f) (Tr.bin L N (f ⟨0, by omega⟩)) (Tr.bin L N (f ⟨1, by omega⟩)) else L (.nd v r n f)
theorem Tr.bin_eq {α : Type} (L : Tr -> α) (N : Tr -> α -> α -> α) (t : Tr) : Tr.bin L N t = if t.n = 2 then N t (Tr.bin L N (t.k 0)) (Tr.bin L N (t.k 1)) else L t := by
 cases t with
 | nd v r n f =>
   rw [Tr.bin]
   by_cases h : n = 2
   ·subst h; rfl
   ·rw [dif_neg h]; exact (if_neg (show ¬ (Tr.nd v r n f).n = 2 from h)).symm
def bitB (a v : Int) : Bool := qK9 .i64 (ishr a v) 1 == 1
def chkTN (vars : Int) (t : Tr) (x y : Int -> Int -> Int × Int) (a c : Int) : Int × Int :=
 if 4096 < c + 1 then (c + 1, 4) else if t.v < 0 ∨ vars ≤ t.v then (c + 1, 3) else if bitB a t.v = true then (c + 1, 6) else if t.r ≠ 0 then (c + 1, 2)
 else if (x (ior .i64 a (qW0 1 t.v)) (c + 1)).2 ≠ 0 then x (ior .i64 a (qW0 1 t.v)) (c + 1) else y (ior .i64 a (qW0 1 t.v)) (x (ior .i64 a (qW0 1 t.v)) (c + 1)).1
def chkTL (t : Tr) (a c : Int) : Int × Int := (c + 1, if 4096 < c + 1 then 4 else if t.n ≠ 0 then 11 else if t.v ≠ 0 then 2 else 0)
def chkT (vars : Int) : Tr -> Int -> Int -> Int × Int := Tr.bin chkTL (chkTN vars)
theorem chkT_eq (vars : Int) (t : Tr) : chkT vars t = if t.n = 2 then chkTN vars t (chkT vars (t.k 0)) (chkT vars (t.k 1)) else chkTL t := Tr.bin_eq _ _ t
def splE (t : Tr) (vars : Int) : Int := if vars < 0 ∨ 24 < vars then 3 else (chkT vars t 0 0).2
def okT (vars : Int) : Tr -> Int -> Prop := Tr.bin (fun t _ => t.n = 0 /\ t.v = 0) fun t x y a => 0 ≤ t.v /\ t.v < vars /\ bitB a t.v = false /\ t.r = 0 /\ x (ior .i64 a (qW0 1 t.v)) /\ y (ior .i64 a (qW0 1 t.v))
theorem okT_eq (vars : Int) (t : Tr) (a : Int) : okT vars t a ↔ if t.n = 2 then 0 ≤ t.v /\ t.v < vars /\ bitB a t.v = false /\ t.r = 0 /\ okT vars (t.k 0) (ior .i64 a (qW0 1 t.v)) /\ okT vars (t.k 1) (ior .i64 a (qW0 1 t.v)) else t.n = 0 /\ t.v = 0 := by
 unfold okT
 rw [Tr.bin_eq]
 split <;> rfl
def cntN : Tr -> Int := Tr.bin (fun _ => 1) fun _ x y => x + y + 1
theorem cntN_eq (t : Tr) : cntN t = if t.n = 2 then cntN (t.k 0) + cntN (t.k 1) + 1 else 1 := Tr.bin_eq _ _ t
theorem qC6 (t : Tr) : 1 ≤ cntN t := by
 induction t using Tr.ind with
 | h t ih =>
   rw [cntN_eq]
   split
   ·rename_i h; have := ih 0 (by omega); have := ih 1 (by omega); omega
   ·omega
theorem chkT_lt (vars : Int) (t : Tr) : ∀ a c : Int, c ≤ 4096 -> c + 1 ≤ (chkT vars t a c).1 /\ (chkT vars t a c).1 ≤ 4097 /\ ((chkT vars t a c).2 = 0 -> (chkT vars t a c).1 ≤ 4096) := by
 induction t using Tr.ind with
 | h t ih =>
   intro a c hc
   rw [chkT_eq]
   split
   ·rename_i h
    unfold chkTN
    have h0 := ih 0 (by omega) (ior .i64 a (qW0 1 t.v)) (c + 1)
    generalize chkT vars (t.k 0) (ior .i64 a (qW0 1 t.v)) (c + 1) = X at *
    have h1 := ih 1 (by omega) (ior .i64 a (qW0 1 t.v)) X.1
    generalize chkT vars (t.k 1) (ior .i64 a (qW0 1 t.v)) X.1 = Y at *
    split
    ·exact ⟨by simp only; omega, by simp only; omega, fun h => by simp at h⟩
    split
    ·exact ⟨by simp only; omega, by simp only; omega, fun h => by simp at h⟩
    split
    ·exact ⟨by simp only; omega, by simp only; omega, fun h => by simp at h⟩
    split
    ·exact ⟨by simp only; omega, by simp only; omega, fun h => by simp at h⟩
    have h0 := h0 (by omega)
    split
    ·rename_i hx; exact ⟨by omega, h0.2.1, fun h => absurd h hx⟩
    ·rename_i hx
     have h1 := h1 (h0.2.2 (by omega))
     exact ⟨by omega, h1.2⟩
   ·unfold chkTL
    refine ⟨by simp only; omega, by simp only; omega, fun h => ?_⟩
    simp only at h ⊢
    split at h
    ·cases h
    ·omega
theorem chkT_ok (vars : Int) (t : Tr) : ∀ a c : Int, (chkT vars t a c).2 = 0 -> c ≤ 4096 -> okT vars t a /\ (chkT vars t a c).1 = c + cntN t := by
 induction t using Tr.ind with
 | h t ih =>
   intro a c
   rw [chkT_eq, okT_eq, cntN_eq]
   by_cases h : t.n = 2
   ·rw [if_pos h, if_pos h, if_pos h]
    unfold chkTN
    have h0 := ih 0 (by omega) (ior .i64 a (qW0 1 t.v)) (c + 1)
    have l0 := chkT_lt vars (t.k 0) (ior .i64 a (qW0 1 t.v)) (c + 1)
    generalize chkT vars (t.k 0) (ior .i64 a (qW0 1 t.v)) (c + 1) = X at *
    have h1 := ih 1 (by omega) (ior .i64 a (qW0 1 t.v)) X.1
    generalize chkT vars (t.k 1) (ior .i64 a (qW0 1 t.v)) X.1 = Y at *
    split
    ·intro h; simp at h
    split
    ·intro h; simp at h
    split
    ·intro h; simp at h
    split
    ·intro h; simp at h
    split
    ·rename_i hx; intro h; exact absurd h hx
    ·rename_i g1 g2 g3 g4 hx
     intro hy hc
     have l0 := l0 (by omega)
     have h0 := h0 (by omega) (by omega)
     have h1 := h1 hy (l0.2.2 (by omega))
     refine ⟨⟨by omega, by omega, by simpa using g3, by omega, h0.1, h1.1⟩, by omega⟩
   ·rw [if_neg h, if_neg h, if_neg h]
    unfold chkTL
    simp only
    intro h1 hc
    refine ⟨?_, trivial⟩
    split at h1
    ·cases h1
    split at h1
    ·cases h1
    split at h1
    ·cases h1
    ·omega
theorem chkT_of (vars : Int) (t : Tr) : ∀ a c : Int, okT vars t a -> c + cntN t ≤ 4096 -> chkT vars t a c = (c + cntN t, 0) := by
 induction t using Tr.ind with
 | h t ih =>
   intro a c
   rw [chkT_eq, okT_eq, cntN_eq]
   by_cases h : t.n = 2
   ·rw [if_pos h, if_pos h, if_pos h]
    rintro ⟨g1, g2, g3, g4, g5, g6⟩ hc
    have p0 := qC6 (t.k 0)
    have p1 := qC6 (t.k 1)
    unfold chkTN
    rw [if_neg (by omega), if_neg (by omega), if_neg (by rw [g3]; decide), if_neg (by omega), ih 0 (by omega) _ _ g5 (by omega)]
    simp only
    rw [if_neg (by omega), ih 1 (by omega) _ _ g6 (by omega)]
    congr 1; omega
   ·rw [if_neg h, if_neg h, if_neg h]
    rintro ⟨g1, g2⟩ hc
    unfold chkTL
    rw [if_neg (by omega), if_neg (by omega), if_neg (by omega)]
theorem splE_ok {t : Tr} {vars : Int} (h : splE t vars = 0) : 0 ≤ vars /\ vars ≤ 24 /\ okT vars t 0 /\ cntN t ≤ 4096 := by
 unfold splE at h
 split at h
 ·cases h
 ·have := chkT_ok vars t 0 0 h (by omega)
  have := (chkT_lt vars t 0 0 (by omega)).2.2 h
  exact ⟨by omega, by omega, (chkT_ok vars t 0 0 h (by omega)).1, by omega⟩
theorem splE_of {t : Tr} {vars : Int} (h0 : 0 ≤ vars) (h1 : vars ≤ 24) (h2 : okT vars t 0) (h3 : cntN t ≤ 4096) : splE t vars = 0 := by
 unfold splE
 rw [if_neg (by omega), chkT_of vars t 0 0 h2 (by omega)]
structure LeafP where
 yes : Int
 no : Int
 reason : Int
 deriving DecidableEq
def leaf0 : LeafP := ⟨0, 0, 0⟩
def leafC (x : LeafP) (q : Nat) : CV := match q with
 | 0 => .lit (.int .i64 x.yes)
 | 1 => .lit (.int .i64 x.no)
 | _ => .lit (.int .i64 x.reason)
def leafL (x : LeafP) : List CV := [.lit (.int .i64 x.yes), .lit (.int .i64 x.no), .lit (.int .i64 x.reason)]
def lvs : Tr -> Int -> Int -> List LeafP := Tr.bin (fun t yes no => [⟨yes, no, t.r⟩]) fun t x y yes no => x yes (ior .i64 no (qW0 1 t.v)) ++ y (ior .i64 yes (qW0 1 t.v)) no
theorem lvs_eq (t : Tr) (yes no : Int) : lvs t yes no = if t.n = 2 then lvs (t.k 0) yes (ior .i64 no (qW0 1 t.v)) ++ lvs (t.k 1) (ior .i64 yes (qW0 1 t.v)) no else [⟨yes, no, t.r⟩] := by
 unfold lvs; rw [Tr.bin_eq]; split <;> rfl
def szT : Tr -> Int × Int × Int := Tr.bin (fun _ => (1, 1, 0)) fun _ x y => (x.1 + y.1 + 1, x.2.1 + y.2.1, max x.2.2 y.2.2 + 1)
theorem szT_eq (t : Tr) : szT t = if t.n = 2 then ((szT (t.k 0)).1 + (szT (t.k 1)).1 + 1, (szT (t.k 0)).2.1 + (szT (t.k 1)).2.1, max (szT (t.k 0)).2.2 (szT (t.k 1)).2.2 + 1) else (1, 1, 0) := Tr.bin_eq _ _ t
theorem szT_rng (t : Tr) : (szT t).1 = cntN t /\ 1 ≤ (szT t).2.1 /\ (szT t).2.1 ≤ cntN t /\ 0 ≤ (szT t).2.2 /\ (szT t).2.2 < cntN t := by
 induction t using Tr.ind with
 | h t ih =>
   rw [szT_eq, cntN_eq]
   split
   ·rename_i h
    have := ih 0 (by omega); have := ih 1 (by omega)
    refine ⟨by simp only; omega, by simp only; omega, by simp only; omega, by simp only; omega, by simp only; omega⟩
   ·simp
def fwL (g : Nat -> Int -> Int) (m : Int) : Nat -> Int
 | 0 => m
 | i + 1 => if fwL g m i < 0 then -1 else g i (fwL g m i)
def leftT : Tr -> Int -> Int -> Int
 | .nd v r n f => fun most depth => if 100 < depth ∨ 10 < n then -1 else fwL (fun i m => if h : i < n then leftT (f ⟨i, h⟩) m (depth + 1) else m) (most - 1) n
theorem fwL_congr {g g' : Nat -> Int -> Int} (m : Int) : ∀ i : Nat, (∀ j, j < i -> ∀ m, g j m = g' j m) -> fwL g m i = fwL g' m i
 | 0, _ => rfl
 | i + 1, h => by rw [fwL, fwL, fwL_congr m i fun j hj => h j (by omega), h i (by omega)]
theorem leftT_eq (t : Tr) (most depth : Int) : leftT t most depth = if 100 < depth ∨ 10 < t.n then -1 else fwL (fun i m => leftT (t.k i) m (depth + 1)) (most - 1) t.n := by
 cases t with
 | nd v r n f =>
   rw [leftT]
   show (if 100 < depth ∨ 10 < n then (-1 : Int) else _) = if 100 < depth ∨ 10 < n then (-1 : Int) else _
   split
   ·rfl
   ·refine fwL_congr _ _ fun j hj m => ?_
    rw [dif_pos hj]
    show _ = leftT (if h : j < n then f ⟨j, h⟩ else Tr.no) m (depth + 1)
    rw [dif_pos hj]
theorem fwL_rng {g : Nat -> Int -> Int} {m : Int} : ∀ {n : Nat}, (∀ i, i < n -> ∀ m', 0 ≤ m' -> -1 ≤ g i m' /\ g i m' < m') -> -1 ≤ m -> -1 ≤ fwL g m n /\ fwL g m n ≤ m
 | 0, _, hm => ⟨by rw [fwL]; omega, by rw [fwL]; omega⟩
 | n + 1, h, hm => by
   have ih := fwL_rng (g := g) (m := m) (n := n) (fun i hi => h i (by omega)) hm
   rw [fwL]
   split
   ·omega
   ·have := h n (by omega) (fwL g m n) (by omega)
    omega
theorem fwL_neg {g : Nat -> Int -> Int} {m : Int} {q : Nat} (h : fwL g m q < 0) : ∀ {n : Nat}, q < n -> fwL g m n = -1
 | 0, hq => absurd hq (Nat.not_lt_zero _)
 | n + 1, hq => by
   rw [fwL]
   by_cases e : q = n
   ·subst e; rw [if_pos h]
   ·rw [fwL_neg h (n := n) (by omega), if_pos (by decide)]
theorem leftT_rng (t : Tr) : ∀ m d : Int, 0 ≤ m -> -1 ≤ leftT t m d /\ leftT t m d < m := by
 induction t using Tr.ind with
 | h t ih =>
   intro m d hm
   rw [leftT_eq]
   split
   ·omega
   ·have := fwL_rng (g := fun i m => leftT (t.k i) m (d + 1)) (m := m - 1) (n := t.n) (fun i hi m' hm' => ih i hi m' (d + 1) hm') (by omega)
    omega
def fwB (t : Tr) (most : Int) : Bool := decide (0 ≤ leftT t most 0)
end Go.Pu
end
section
namespace Go.Pu
open Go.Sy
variable [Drw]
theorem bitB_bit (s : Int) {v : Int} (h0 : 0 ≤ v) (h1 : v < 24) : bitB s v = bit s v.toNat := by
 obtain ⟨n, rfl⟩ := Int.eq_ofNat_of_zero_le h0
 have hn : n < 24 := by omega
 rw [<-hasB_nat s (i := (n : Int).toNat) (by simpa using hn)]
 unfold hasB bitB
 have h2 : decide ((0 : Int) ≤ (n : Int)) = true := decide_eq_true h0
 have h3 : decide ((n : Int) < 24) = true := decide_eq_true h1
 simp only [Int.toNat_natCast, h2, h3, Bool.true_and]
theorem shl_rng24 {v : Int} (h0 : 0 ≤ v) (h1 : v < 24) : 1 ≤ qW0 1 v /\ qW0 1 v ≤ 8388608 := by
 obtain ⟨n, rfl⟩ := Int.eq_ofNat_of_zero_le h0
 exact (by decide +kernel : ∀ n : Fin 24, 1 ≤ qW0 1 ((n.val : Nat) : Int) /\ qW0 1 ((n.val : Nat) : Int) ≤ 8388608) ⟨n, by omega⟩
theorem not_zero {a b : Int} : qQ4 .i64 a b = 0 ↔ ∀ i, i < 64 -> bit a i = true -> bit b i = true := by
 rw [eq_zero_iff (by simp)]
 refine forall_congr' fun i => forall_congr' fun _ => ?_
 rw [qZ4]
 cases bit a i <;> cases bit b i <;> simp
def gT : Tr -> Prop := Tr.bin (fun t => t.n = 0 /\ t.v = 0) fun t x y => 0 ≤ t.v /\ t.v < 24 /\ t.r = 0 /\ x /\ y
theorem gT_eq (t : Tr) : gT t ↔ if t.n = 2 then 0 ≤ t.v /\ t.v < 24 /\ t.r = 0 /\ gT (t.k 0) /\ gT (t.k 1) else t.n = 0 /\ t.v = 0 := by
 unfold gT; rw [Tr.bin_eq]
theorem okT_gT {vars : Int} (hv : vars ≤ 24) {t : Tr} : ∀ {a : Int}, okT vars t a -> gT t := by
 induction t using Tr.ind with
 | h t ih =>
   intro a
   rw [okT_eq, gT_eq]
   split
   ·rename_i h
    rintro ⟨g1, g2, g3, g4, g5, g6⟩
    exact ⟨g1, by omega, g4, ih 0 (by omega) g5, ih 1 (by omega) g6⟩
   ·exact id
theorem okT_le {vars : Int} (hv : vars ≤ 24) {t : Tr} : ∀ {a a' : Int}, (∀ i, bit a' i = true -> bit a i = true) -> okT vars t a -> okT vars t a' := by
 induction t using Tr.ind with
 | h t ih =>
   intro a a' hp
   rw [okT_eq vars t a, okT_eq vars t a']
   split
   ·rename_i h
    rintro ⟨g1, g2, g3, g4, g5, g6⟩
    have hp' : ∀ i, bit (ior .i64 a' (qW0 1 t.v)) i = true -> bit (ior .i64 a (qW0 1 t.v)) i = true := fun i => by
     rw [qK1, qK1, Bool.or_eq_true, Bool.or_eq_true]
     exact Or.imp (hp i) id
    refine ⟨g1, g2, ?_, g4, ih 0 (by omega) hp' g5, ih 1 (by omega) hp' g6⟩
    rw [bitB_bit _ g1 (by omega)] at g3 ⊢
    cases hb : bit a' t.v.toNat with
    | false => rfl
    | true => rw [hp _ hb] at g3; cases g3
   ·exact id
theorem okT_two (vars v : Int) (x y : Tr) (a : Int) : okT vars (Tr.two v x y) a ↔ 0 ≤ v /\ v < vars /\ bitB a v = false /\ okT vars x (ior .i64 a (qW0 1 v)) /\ okT vars y (ior .i64 a (qW0 1 v)) := by
 refine (okT_eq vars (Tr.two v x y) a).trans ?_
 rw [if_pos (show (Tr.two v x y).n = 2 from rfl)]
 exact ⟨fun ⟨h1, h2, h3, _, h5⟩ => ⟨h1, h2, h3, h5⟩, fun ⟨h1, h2, h3, h5⟩ => ⟨h1, h2, h3, rfl, h5⟩⟩
theorem okT_lf (vars r a : Int) : okT vars (Tr.lf r) a := (okT_eq vars (Tr.lf r) a).2 (by rw [if_neg (by simp)]; exact ⟨rfl, rfl⟩)
theorem cntN_two (v : Int) (x y : Tr) : cntN (Tr.two v x y) = cntN x + cntN y + 1 := cntN_eq (Tr.two v x y)
theorem cntN_lf (r : Int) : cntN (Tr.lf r) = 1 := cntN_eq (Tr.lf r)
theorem lvs_len (t : Tr) : ∀ yes no : Int, ((lvs t yes no).length : Int) = (szT t).2.1 := by
 induction t using Tr.ind with
 | h t ih =>
   intro yes no
   rw [lvs_eq, szT_eq]
   split
   ·rename_i h
    simp only [List.length_append]
    have := ih 0 (by omega) yes (ior .i64 no (qW0 1 t.v))
    have := ih 1 (by omega) (ior .i64 yes (qW0 1 t.v)) no
    omega
   ·rfl
end Go.Pu
end
section
namespace Go.Proofs.YtgoilpfpmbjegaaGreatDoor
open Go.Sy Go.Pu
variable [Drw]
def firstB (p : Nat -> Bool) (n : Nat) : Option Nat := (List.range n).find? p
theorem qC5 {p : Nat -> Bool} {n : Nat} : firstB p n = none ↔ ∀ i, i < n -> p i = false := by
 unfold firstB
 rw [List.find?_eq_none]
 simp
theorem firstB_succ (p : Nat -> Bool) (n : Nat) : firstB p (n + 1) = (firstB p n).or (if p n then some n else none) := by
 unfold firstB
 rw [List.range_succ, List.find?_append]
 congr 1
 simp [List.find?_cons]
 cases p n <;> rfl
theorem firstB_some {p : Nat -> Bool} {n q : Nat} (hq : q < n) (hp : p q = true) (hl : ∀ i, i < q -> p i = false) : firstB p n = some q := by
 induction n with
 | zero => omega
 | succ n ih =>
   rw [firstB_succ]
   by_cases h : q < n
   ·rw [ih h]; rfl
   ·obtain rfl : q = n := by omega
    rw [qC5.2 hl, if_pos hp]; rfl
theorem firstB_spec {p : Nat -> Bool} {n q : Nat} (h : firstB p n = some q) : q < n /\ p q = true /\ ∀ i, i < q -> p i = false := by
 have h1 := List.find?_some h
 have h2 := List.mem_of_find?_eq_some h
 rw [List.mem_range] at h2
 refine ⟨h2, h1, fun i hi => ?_⟩
 cases hb : p i with
 | false => rfl
 | true =>
   exfalso
   have hex : ∃ j, j ≤ i /\ p j = true /\ ∀ k, k < j -> p k = false := by
    induction i using Nat.strongRecOn with
    | _ i ih =>
      by_cases hk : ∃ k, k < i /\ p k = true
      ·obtain ⟨k, hk1, hk2⟩ := hk
       obtain ⟨j, j1, j2, j3⟩ := ih k hk1 (by omega) hk2
       exact ⟨j, by omega, j2, j3⟩
      ·exact ⟨i, Nat.le_refl _, hb, fun k hk' => by
        cases hpk : p k with
        | false => rfl
        | true => exact absurd ⟨k, hk', hpk⟩ hk⟩
   obtain ⟨j, j1, j2, j3⟩ := hex
   have := firstB_some (n := n) (by omega) j2 j3
   rw [h] at this
   cases this
   omega
def setE (vars : Int) (l : List Int) : Int := if 1024 < l.length then 4 else if l.all (fun s => decide (0 ≤ s) && decide (s < qW0 1 vars)) = true then 0 else 3
theorem setE_zero {n : Nat} (hn : n ≤ 24) {l : List Int} (h : setE n l = 0) : l.length ≤ 1024 /\ ∀ s ∈ l, inN n s := by
 unfold setE at h
 split at h
 ·cases h
 split at h
 ·rename_i h1 h2
  refine ⟨by omega, fun s hs => (inN_iff hn).2 ?_⟩
  have := List.all_eq_true.1 h2 s hs
  rw [Bool.and_eq_true, decide_eq_true_iff, decide_eq_true_iff, qC4] at this
  exact this
 ·cases h
theorem setE_of {n : Nat} (hn : n ≤ 24) {l : List Int} (h0 : l.length ≤ 1024) (h1 : ∀ s ∈ l, inN n s) : setE n l = 0 := by
 unfold setE
 rw [if_neg (by omega), if_pos]
 rw [List.all_eq_true]
 intro s hs
 have := (inN_iff hn).1 (h1 s hs)
 rw [Bool.and_eq_true, decide_eq_true_iff, decide_eq_true_iff, qC4]
 exact this
theorem pathSE_in {f : FormP} {n : Nat} (h1 : qV7 f = 0) (hn : f.vars = n) (hn24 : n ≤ 24) {s : Int} (hs : inN n s) : qK6 f s = 0 := by
 have := (inN_iff hn24).1 hs
 rw [qK6, if_pos h1, if_pos ⟨this.1, by rw [hn, qC4]; exact this.2⟩]
theorem nz_part {a b : Int} (ha : qQ6 a = true) : qQ4 .i64 a b = 0 ↔ Part a b := by
 rw [not_zero]
 refine ⟨fun h i hi => h i (Nat.lt_of_not_le fun h' => by rw [qA1 ha (by omega)] at hi; cases hi) hi, fun h i _ hi => h i hi⟩
end Go.Proofs.YtgoilpfpmbjegaaGreatDoor
end
section
namespace Go.Proofs.YtgoilpfpmbjegaaGreatDoor
open Go.Sy Go.Pu
variable [Drw]
def lowB (s : Int) : Nat := (firstB (bit s) 24).getD 0
theorem lowB_spec {s : Int} (hs : qQ6 s = true) (h : s ≠ 0) : lowB s < 24 /\ bit s (lowB s) = true /\ ∀ i, i < lowB s -> bit s i = false := by
 unfold lowB
 cases hf : firstB (bit s) 24 with
 | some i => exact firstB_spec hf
 | none =>
   exfalso
   refine h ((eq_zero_iff (validS_rng hs)).2 fun i hi => ?_)
   by_cases h24 : i < 24
   ·exact qC5.1 hf i h24
   ·exact qA1 hs (by omega)
theorem filt_lt {α : Type} {p q : α -> Bool} : ∀ {l : List α} {a : α}, (∀ x, q x = true -> p x = true) -> a ∈ l -> p a = true -> q a = false -> (l.filter q).length < (l.filter p).length
 | b :: l, a, hpq, ha, h1, h2 => by
   have hle : (l.filter q).length ≤ (l.filter p).length := by
    clear ha
    induction l with
    | nil => exact Nat.le_refl _
    | cons x l ih =>
      simp only [List.filter_cons]
      have := hpq x
      cases hq : q x <;> cases hp : p x <;> simp_all <;> omega
   simp only [List.filter_cons]
   rcases List.mem_cons.1 ha with rfl | ha
   ·rw [h1, h2]; simp; omega
   ·have := filt_lt hpq ha h1 h2
    have hb := hpq b
    cases hq : q b <;> cases hp : p b <;> simp_all <;> omega
def freeC (yes no : Int) : Nat := ((List.range 24).filter fun i => !bit yes i && !bit no i).length
theorem free_no {yes no : Int} {v : Nat} (hv : v < 24) (h1 : bit yes v = false) (h2 : bit no v = false) : freeC yes (ior .i64 no (Go.Pu.one v)) < freeC yes no := by
 refine filt_lt (a := v) (fun x hx => ?_) (List.mem_range.2 hv) (by rw [h1, h2]; rfl) (by rw [qK1, one_bit hv]; simp)
 rw [qK1] at hx
 cases h : bit yes x <;> cases h' : bit no x <;> simp_all
theorem free_yes {yes no : Int} {v : Nat} (hv : v < 24) (h1 : bit yes v = false) (h2 : bit no v = false) : freeC (ior .i64 yes (Go.Pu.one v)) no < freeC yes no := by
 refine filt_lt (a := v) (fun x hx => ?_) (List.mem_range.2 hv) (by rw [h1, h2]; rfl) (by rw [qK1, one_bit hv]; simp)
 rw [qK1] at hx
 cases h : bit yes x <;> cases h' : bit no x <;> simp_all
theorem free_le (yes no : Int) : freeC yes no ≤ 24 := by
 have := List.length_filter_le (fun i => !bit yes i && !bit no i) (List.range 24)
 simpa [freeC] using this
def inYes (cuts : List Int) (yes : Int) : Option Nat := firstB (fun i => qQ4 .i64 (cuts.getD i 0) yes == 0) cuts.length
def offNo (cuts : List Int) (no : Int) : Option Nat := firstB (fun i => qK9 .i64 (cuts.getD i 0) no == 0) cuts.length
def qV2 (cuts : List Int) (yes : Int) (i : Nat) : Nat := lowB (qQ4 .i64 (cuts.getD i 0) yes)
theorem inYes_none {cuts : List Int} {yes : Int} (h : inYes cuts yes = none) : ∀ x ∈ cuts, qQ4 .i64 x yes ≠ 0 := fun x hx => by
 obtain ⟨i, hi, rfl⟩ := List.getElem_of_mem hx
 have := qC5.1 h i hi
 rw [List.getD_eq_getElem?_getD, List.getElem?_eq_getElem hi] at this
 simpa using this
theorem inYes_some {cuts : List Int} {yes : Int} {i : Nat} (h : inYes cuts yes = some i) : i < cuts.length /\ qQ4 .i64 (cuts.getD i 0) yes = 0 := by
 obtain ⟨h1, h2, _⟩ := firstB_spec h
 exact ⟨h1, by simpa using h2⟩
theorem offNo_some {cuts : List Int} {no : Int} {i : Nat} (h : offNo cuts no = some i) : i < cuts.length /\ qK9 .i64 (cuts.getD i 0) no = 0 := by
 obtain ⟨h1, h2, _⟩ := firstB_spec h
 exact ⟨h1, by simpa using h2⟩
theorem getD_mem {l : List Int} {i : Nat} (h : i < l.length) : l.getD i 0 ∈ l := by
 rw [List.getD_eq_getElem?_getD, List.getElem?_eq_getElem h]; exact List.getElem_mem h
theorem next_spec {n : Nat} (hn : n ≤ 24) {cuts : List Int} (hc : ∀ x ∈ cuts, inN n x) {yes no : Int} {i : Nat} (h1 : inYes cuts yes = none) (h2 : offNo cuts no = some i) :
  qV2 cuts yes i < n /\ bit yes (qV2 cuts yes i) = false /\ bit no (qV2 cuts yes i) = false := by
 obtain ⟨g1, g2⟩ := offNo_some h2
 have hm := getD_mem g1
 have hx := hc _ hm
 have hne := inYes_none h1 _ hm
 unfold qV2
 generalize cuts.getD i 0 = x at *
 obtain ⟨q1, q2, _⟩ := lowB_spec (qD7 (y := yes) hx.1) hne
 rw [qZ4, Bool.and_eq_true, Bool.not_eq_true'] at q2
 refine ⟨Nat.lt_of_not_le fun h' => ?_, q2.2, iand_zero.1 g2 _ (by omega) q2.1⟩
 rw [hx.2 _ h'] at q2; cases q2.1
section
variable {n : Nat} {cuts paths : List Int}
end
theorem hit_in {f : FormP} {n : Nat} (hn : f.vars = n) (h1 : qV7 f = 0) (h2 : pathsE f = 0) (h3 : hitE (qW5 f) = 0) : ∀ x ∈ hitL (qW5 f), inN n x /\ minP f x false n = true := fun x hx => by
 have hv := (qY1 (pathE_ok h1).1).vars
 have hn24 : n ≤ 24 := by omega
 obtain ⟨f1, f2, f3⟩ := hit_facts h1 hn h2 h3
 obtain ⟨m1, m2⟩ := f3 x hx
 have hin : inN n x := by
  rw [qK6, if_pos h1] at m2
  split at m2
  ·rename_i h
   rw [hn, qC4] at h
   exact (inN_iff hn24).2 h
  ·cases m2
 refine ⟨hin, ?_⟩
 rw [minV, m2, hn] at m1
 simpa using m1
end Go.Proofs.YtgoilpfpmbjegaaGreatDoor
end
section
namespace Go.Proofs.YtgoilpfpmbjegaaGreatDoor
open Go.Sy Go.Pu
variable [Drw]
structure CasP where
 state : Int
 cost : List Int
def cst (x : CasP) (i : Nat) : Int := x.cost.getD i 0
def qV4 (x : CasP) (s : Int) : Int := sumN (cst x) s x.cost.length
def casE (f : FormP) (x : CasP) : Int := if qV7 f = 0 then if (decide (0 ≤ x.state) && decide (x.state < qW0 1 f.vars)) = true then if (x.cost.length : Int) = f.vars then if x.cost.all (fun c => decide (0 ≤ c) && decide (c ≤ 1048576)) = true then 0 else 3 else 11 else 3 else qV7 f
def posE (f : FormP) : Int := if qJ5 f 0 = true then 17 else 0
def skipB (state : Int) (n i : Nat) : Nat := (firstB (fun k => decide (i ≤ k) && bit state k) n).getD n
theorem skip_spec {state : Int} {n i : Nat} : skipB state n i ≤ n /\ (skipB state n i < n -> i ≤ skipB state n i /\ bit state (skipB state n i) = true) /\ ∀ k, i ≤ k -> k < skipB state n i -> bit state k = false := by
 unfold skipB
 cases h : firstB (fun k => decide (i ≤ k) && bit state k) n with
 | none =>
   refine ⟨Nat.le_refl _, fun h => absurd h (Nat.lt_irrefl _), fun k h1 h2 => ?_⟩
   have := qC5.1 h k h2
   simpa [h1] using this
 | some j =>
   obtain ⟨h1, h2, h3⟩ := firstB_spec h
   simp only [Bool.and_eq_true, decide_eq_true_iff] at h2
   refine ⟨Nat.le_of_lt h1, fun _ => h2, fun k h4 h5 => ?_⟩
   have := h3 k h5
   simpa [h4] using this
def pruneB (x : SS) (set total : Int) : Bool := x.found && (decide (x.total < total) || (decide (total = x.total) && decide (cntS x.best < cntS set)))
def rsF (val : Int -> Bool) (c : Nat -> Int) (state : Int) (n : Nat) : Nat -> Nat -> Int -> Int -> SS -> SS
 | 0, _, _, _, x => x
 | f + 1, i, set, total, x =>
   if pruneB x set total = true then x
   else if val (qQ4 .i64 state (ior .i64 set (qQ4 .i64 state (qW0 1 i - 1)))) = true then x
   else if val (qQ4 .i64 state set) = false then if betB x set total = true then ⟨set, total, true⟩ else x
   else if skipB state n i = n then x
   else rsF val c state n f (skipB state n i + 1) set total (rsF val c state n f (skipB state n i + 1) (ior .i64 set (Go.Pu.one (skipB state n i))) (total + c (skipB state n i)) x)
def HealV (val : Int -> Bool) (state t : Int) : Prop := Part t state /\ val (qQ4 .i64 state t) = false
def SR (val : Int -> Bool) (c : Nat -> Int) (state : Int) (x : SS) : Prop := x.found = true -> qQ6 x.best = true /\ HealV val state x.best /\ x.total = sumS c x.best
theorem rsF_spec {val : Int -> Bool} {c : Nat -> Int} (hc : ∀ i, i < 24 -> 0 ≤ c i) {state : Int} {n : Nat} (hn : n ≤ 24) (hs : inN n state) (hmono : ∀ a b, inN n a -> inN n b -> Part a b -> val a = true -> val b = true) :
  ∀ (f i : Nat) (set total : Int) (x : SS), n < i + f -> i ≤ n -> qQ6 set = true -> Part set state -> (∀ k, i ≤ k -> bit set k = false) -> total = sumS c set -> SR val c state x ->
    SR val c state (rsF val c state n f i set total x) /\ Up c x (rsF val c state n f i set total x) /\
     ∀ t, qQ6 t = true -> Part set t -> (∀ k, k < i -> bit t k = bit set k) -> HealV val state t -> (rsF val c state n f i set total x).found = true /\ Le c (rsF val c state n f i set total x).best t
 | 0, i, set, total, x, hf, hi, _, _, _, _, _ => absurd hf (by omega)
 | f + 1, i, set, total, x, hf, hi, hv, hp, hab, ht, hx => by
   have hsv := hs.1
   have hupr : Up c x x := fun h => ⟨h, Le.refl _ _⟩
   rw [rsF]
   by_cases hpr : pruneB x set total = true
   ·rw [if_pos hpr]
    refine ⟨hx, hupr, fun t htv hst _ hh => ?_⟩
    unfold pruneB at hpr
    simp only [Bool.and_eq_true, Bool.or_eq_true, decide_eq_true_iff] at hpr
    obtain ⟨hfd, hpr⟩ := hpr
    obtain ⟨b1, b2, b3⟩ := hx hfd
    refine ⟨hfd, ?_⟩
    have h1 := sumS_mono hc hst
    have h2 := sumS_mono (c := fun _ => 1) (fun _ _ => by decide) hst
    rw [<-popc_sum hv, <-popc_sum htv] at h2
    unfold Le
    simp only [cntS, qB2 hv, qB2 b1, qB2 htv] at hpr ⊢
    omega
   rw [if_neg hpr]
   by_cases hv1 : val (qQ4 .i64 state (ior .i64 set (qQ4 .i64 state (qW0 1 i - 1)))) = true
   ·rw [if_pos hv1]
    refine ⟨hx, hupr, fun t htv hst hbl hh => ?_⟩
    exfalso
    have := hmono _ (qQ4 .i64 state t) (qW7 hn hs) (qW7 hn hs) (fun j hj => by
     have hjn : j < n := Nat.lt_of_not_le fun h' => by
      rw [qZ4, hs.2 j h'] at hj; cases hj
     rw [qZ4, qK1, qZ4, Bool.and_eq_true, Bool.not_eq_true', Bool.or_eq_false_iff, Bool.and_eq_false_iff, Bool.not_eq_false'] at hj
     obtain ⟨j1, j2, j3⟩ := hj
     have hji : j < i := by
      rcases j3 with j3 | j3
      ·rw [j3] at j1; cases j1
      ·rw [show qW0 1 (i : Int) - 1 = allN i by rw [allN, qC4]; have := Nat.two_pow_pos i; generalize 2 ^ i = P at *; omega, bit_allN (by omega)] at j3
       simpa using j3
     rw [qZ4, j1, hbl j hji, j2]; rfl) hv1
    rw [hh.2] at this; cases this
   rw [if_neg hv1]
   by_cases hv2 : val (qQ4 .i64 state set) = false
   ·rw [if_pos hv2]
    have hle : ∀ t, qQ6 t = true -> Part set t -> Le c set t := fun t htv hst => Le.part hc hv htv hst
    by_cases hb : betB x set total = true
    ·rw [if_pos hb]
     refine ⟨fun _ => ⟨hv, ⟨hp, hv2⟩, ht⟩, fun hfd => ⟨rfl, ?_⟩, fun t htv hst _ _ => ⟨rfl, hle t htv hst⟩⟩
     obtain ⟨b1, b2, b3⟩ := hx hfd
     unfold betB at hb
     rw [hfd] at hb
     simp only [Bool.not_true, Bool.false_or] at hb
     have h3 := qY5 set x.best
     unfold Le
     simp only
     split at hb
     ·rename_i h1
      have h1 := of_decide_eq_true h1
      have hb := of_decide_eq_true hb
      omega
     ·rename_i h1
      have h1 : total = x.total := by
       simpa using h1
      have hb := of_decide_eq_true hb
      rw [h3] at hb
      omega
    ·rw [if_neg hb]
     refine ⟨hx, hupr, fun t htv hst _ _ => ?_⟩
     unfold betB at hb
     cases hfd : x.found with
     | false => rw [hfd] at hb; simp at hb
     | true =>
       refine ⟨rfl, ?_⟩
       rw [hfd] at hb
       simp only [Bool.not_true, Bool.false_or] at hb
       obtain ⟨b1, b2, b3⟩ := hx hfd
       refine Le.trans ?_ (hle t htv hst)
       have h3 := qY5 set x.best
       unfold Le
       split at hb
       ·rename_i h1
        have h1 := of_decide_eq_true h1
        rw [decide_eq_true_iff] at hb
        omega
       ·rename_i h1
        have h1 : total = x.total := by
         simpa using h1
        rw [decide_eq_true_iff, h3] at hb
        omega
   rw [if_neg hv2]
   obtain ⟨k1, k2, k3⟩ := skip_spec (state := state) (n := n) (i := i)
   by_cases hj : skipB state n i = n
   ·rw [if_pos hj]
    refine ⟨hx, hupr, fun t htv hst hbl hh => ?_⟩
    exfalso
    have e : t = set := valid_ext htv hv fun j _ => by
     by_cases hji : j < i
     ·exact hbl j hji
     ·rw [hab j (by omega)]
      cases hbt : bit t j with
      | false => rfl
      | true =>
        have h1 := hh.1 j hbt
        by_cases hjn : j < n
        ·rw [k3 j (by omega) (by omega)] at h1; cases h1
        ·rw [hs.2 j (by omega)] at h1; cases h1
    rw [e] at hh
    exact hv2 hh.2
   rw [if_neg hj]
   obtain ⟨k4, k5⟩ := k2 (by omega)
   generalize skipB state n i = j at *
   have hjn : j < n := by omega
   have hj24 : j < 24 := by omega
   have hb0 : bit set j = false := hab j k4
   have hv' : qQ6 (ior .i64 set (Go.Pu.one j)) = true := valid_ior hv (one_valid hj24)
   have hA := rsF_spec hc hn hs hmono f (j + 1) (ior .i64 set (Go.Pu.one j)) (total + c j) x (by omega) (by omega) hv' (fun q hq => by
    rw [qK1, one_bit hj24, Bool.or_eq_true] at hq
    rcases hq with hq | hq
    ·exact hp q hq
    ·have : j = q := by simpa using hq
     rw [<-this]; exact k5) (fun q hq => by
    rw [qK1, hab q (by omega), one_bit hj24, decide_eq_false (by omega)]; rfl) (by rw [sumS_ior hb0 hj24, ht]) hx
   generalize rsF val c state n f (j + 1) (ior .i64 set (Go.Pu.one j)) (total + c j) x = y at *
   obtain ⟨a1, a2, a3⟩ := hA
   have hB := rsF_spec hc hn hs hmono f (j + 1) set total y (by omega) (by omega) hv hp (fun q hq => hab q (by omega)) ht a1
   generalize rsF val c state n f (j + 1) set total y = z at *
   obtain ⟨b1, b2, b3⟩ := hB
   refine ⟨b1, a2.trans b2, fun t htv hst hbl hh => ?_⟩
   have hbl' : ∀ q, q < j -> bit t q = bit set q := fun q hq => by
    by_cases hqi : q < i
    ·exact hbl q hqi
    ·rw [hab q (by omega)]
     cases hbt : bit t q with
     | false => rfl
     | true =>
       have := hh.1 q hbt
       rw [k3 q (by omega) hq] at this; cases this
   cases hbt : bit t j with
   | true =>
     obtain ⟨h1, h2⟩ := a3 t htv (part_ior_one hj24 hst hbt) (fun q hq => by
      rw [qK1, one_bit hj24]
      by_cases hqj : j = q
      ·subst hqj; rw [hbt]; simp
      ·rw [hbl' q (by omega)]; simp [hqj]) hh
     exact ⟨(b2 h1).1, (b2 h1).2.trans h2⟩
   | false =>
     exact b3 t htv hst (fun q hq => by
      by_cases hqj : q = j
      ·subst hqj; rw [hbt, hb0]
      ·exact hbl' q (by omega)) hh
def rsV (f : FormP) (x : CasP) : SS := rsF (qJ5 f) (cst x) x.state f.vars.toNat (f.vars.toNat + 1) 0 0 0 ⟨0, 0, false⟩
def cheV (f : FormP) (x : CasP) : Int × Int × Int := if casE f x = 0 then if posE f = 0 then ((rsV f x).best, (rsV f x).total, 0) else (0, 0, posE f) else (0, 0, casE f x)
structure CasOk (f : FormP) (x : CasP) (n : Nat) : Prop where
 vars : f.vars = n
 ok : FormOk f
 coh : cohF f = true
 n24 : n ≤ 24
 st : inN n x.state
 len : x.cost.length = n
 cost : ∀ i, 0 ≤ cst x i /\ cst x i ≤ 1048576
 pe : qV7 f = 0
theorem casE_ok {f : FormP} {x : CasP} (h : casE f x = 0) : ∃ n, CasOk f x n := by
 unfold casE at h
 split at h
 ·rename_i h1
  have h0 := pathE_ok h1
  have ok := qY1 h0.1
  have hv := ok.vars
  obtain ⟨n, hn⟩ := Int.eq_ofNat_of_zero_le (show 0 ≤ f.vars by omega)
  have hn24 : n ≤ 24 := by omega
  split at h
  ·rename_i h2
   split at h
   ·rename_i h3
    split at h
    ·rename_i h4
     refine ⟨n, hn, ok, h0.2, hn24, (inN_iff hn24).2 ?_, by omega, fun i => ?_, h1⟩
     ·rw [Bool.and_eq_true, decide_eq_true_iff, decide_eq_true_iff, hn] at h2
      have := qC4 n
      rw [this] at h2
      exact h2
     ·unfold cst
      rw [List.getD_eq_getElem?_getD]
      by_cases hi : i < x.cost.length
      ·rw [List.getElem?_eq_getElem hi]
       have := List.all_eq_true.1 h4 _ (List.getElem_mem hi)
       rw [Bool.and_eq_true, decide_eq_true_iff, decide_eq_true_iff] at this
       exact this
      ·rw [List.getElem?_eq_none (by omega)]; decide
    ·cases h
   ·cases h
  ·cases h
 ·rename_i h1; exact absurd h h1
theorem price_sum {f : FormP} {x : CasP} {n : Nat} (h : CasOk f x n) {s : Int} (hs : inN n s) : qV4 x s = sumS (cst x) s := by
 have hn := h.n24
 unfold qV4 sumS
 rw [h.len]
 have : ∀ k, n + k ≤ 24 -> sumN (cst x) s (n + k) = sumN (cst x) s n := by
  intro k
  induction k with
  | zero => intro _; rfl
  | succ k ih =>
    intro hk
    rw [<-Nat.add_assoc, sumN, ih (by omega), hs.2 (n + k) (by omega)]; simp
 have := this (24 - n) (by omega)
 rw [show n + (24 - n) = 24 by omega] at this
 exact this.symm
theorem value_mono {f : FormP} {x : CasP} {n : Nat} (h : CasOk f x n) (a b : Int) (ha : inN n a) (hb : inN n b) (hp : Part a b) (hv : qJ5 f a = true) : qJ5 f b = true := by
 have := isP_mono h.ok h.coh h.vars false a b ha hb hp (by rw [isP_cut]; exact hv)
 rwa [isP_cut] at this
def Heals (f : FormP) (x : CasP) (t : Int) : Prop := HealV (qJ5 f) x.state t
theorem heals_in {f : FormP} {x : CasP} {n : Nat} (h : CasOk f x n) {t : Int} (htv : qQ6 t = true) (hp : Part t x.state) : inN n t := ⟨htv, fun i hi => by
 cases hb : bit t i with
 | false => rfl
 | true => have := hp i hb; rw [h.st.2 i hi] at this; cases this⟩
theorem rsV_spec {f : FormP} {x : CasP} {n : Nat} (h : CasOk f x n) : SR (qJ5 f) (cst x) x.state (rsV f x) /\ ∀ t, qQ6 t = true -> Heals f x t -> (rsV f x).found = true /\ Le (cst x) (rsV f x).best t := by
 have hn : f.vars.toNat = n := by have := h.vars; omega
 unfold rsV
 rw [hn]
 obtain ⟨h1, h2, h3⟩ := rsF_spec (fun i _ => (h.cost i).1) h.n24 h.st (value_mono h) (n + 1) 0 0 0 ⟨0, 0, false⟩ (by omega) (Nat.zero_le _) valid0 (bit0 _) (fun k _ => by simp) (sum0 _).symm (fun h => by cases h)
 exact ⟨h1, fun t ht hh => h3 t ht (bit0 t) (fun k hk => absurd hk (by omega)) hh⟩
theorem heal_all {f : FormP} {x : CasP} {n : Nat} (h : CasOk f x n) (h0 : posE f = 0) : Heals f x x.state := by
 have e : qQ4 .i64 x.state x.state = 0 := valid_ext (qD7 h.st.1) valid0 fun i _ => by rw [qZ4]; simp
 refine ⟨Part.refl _, ?_⟩
 rw [e]
 unfold posE at h0
 split at h0
 ·cases h0
 ·rename_i h1; simpa using h1
theorem qB9 {f : FormP} {x : CasP} {n : Nat} (h : CasOk f x n) (h0 : posE f = 0) : inN n (rsV f x).best /\ Heals f x (rsV f x).best /\ (rsV f x).total = sumS (cst x) (rsV f x).best /\ ∀ t, qQ6 t = true -> Heals f x t -> Le (cst x) (rsV f x).best t := by
 obtain ⟨h1, h2⟩ := rsV_spec h
 have hf := (h2 _ h.st.1 (heal_all h h0)).1
 obtain ⟨h3, h4, h5⟩ := h1 hf
 exact ⟨heals_in h h3 h4.1, h4, h5, fun t ht hh => (h2 t ht hh).2⟩
theorem no_heal {f : FormP} {x : CasP} {n : Nat} (h : CasOk f x n) (h0 : posE f ≠ 0) (t : Int) : ¬ Heals f x t := fun hh => by
 have hv : qJ5 f 0 = true := by
  unfold posE at h0
  split at h0
  ·rename_i h1; exact h1
  ·exact absurd rfl h0
 have := value_mono h 0 (qQ4 .i64 x.state t) ⟨valid0, fun i _ => by simp⟩ (qW7 h.n24 h.st) (bit0 _) hv
 rw [hh.2] at this; cases this
end Go.Proofs.YtgoilpfpmbjegaaGreatDoor
end
section
namespace Go.Proofs.YtgoilpfpmbjegaaGreatDoor
open Go.Sy Go.Pu
variable [Drw]
theorem sub_valid {x s : Int} (hx : qQ6 x = true) (hs : rng s) (h : qQ4 .i64 s x = 0) : qQ6 s = true := validS_of hs fun i hi => by
 cases hb : bit s i with
 | false => rfl
 | true => have := not_zero.1 h i (bit_lt hb) hb; rw [qA1 hx hi] at this; cases this
def healB (f : FormP) (x : CasP) (s : Int) : Bool := decide (qQ4 .i64 s x.state = 0) && !qJ5 f (qQ4 .i64 x.state s)
theorem healB_iff {f : FormP} {x : CasP} {s : Int} (hs : qQ6 s = true) : healB f x s = true ↔ Heals f x s := by
 unfold healB Heals HealV
 rw [Bool.and_eq_true, decide_eq_true_iff, nz_part hs, Bool.not_eq_true']
def BestTo (f : FormP) (x : CasP) (k : Nat) (b : Int) : Prop := (b = -1 /\ ∀ t : Nat, t < k -> healB f x t = false) ∨ (0 ≤ b /\ b < k /\ healB f x b = true /\ ∀ t : Nat, t < k -> healB f x t = true -> Le (cst x) b t)
theorem best_skip {f : FormP} {x : CasP} {k : Nat} {b : Int} (h : BestTo f x k b) (hk : healB f x k = false) : BestTo f x (k + 1) b := by
 rcases h with ⟨h1, h2⟩ | ⟨h1, h2, h3, h4⟩
 ·refine .inl ⟨h1, fun t ht => ?_⟩
  by_cases e : t = k
  ·rw [e]; exact hk
  ·exact h2 t (by omega)
 ·refine .inr ⟨h1, by omega, h3, fun t ht hh => ?_⟩
  by_cases e : t = k
  ·rw [e, hk] at hh; cases hh
  ·exact h4 t (by omega) hh
theorem best_take {f : FormP} {x : CasP} {k : Nat} {b : Int} (h : BestTo f x k b) (hk : healB f x k = true) (hu : b < 0 ∨ sumS (cst x) k < sumS (cst x) b ∨ (sumS (cst x) k = sumS (cst x) b /\ cmpS k b < 0)) : BestTo f x (k + 1) k := by
 refine .inr ⟨by omega, by omega, hk, fun t ht hh => ?_⟩
 by_cases e : t = k
 ·rw [e]; exact Le.refl _ _
 rcases h with ⟨h1, h2⟩ | ⟨h1, h2, h3, h4⟩
 ·rw [h2 t (by omega)] at hh; cases hh
 ·refine Le.trans (y := b) ?_ (h4 t (by omega) hh)
  rw [qY5] at hu
  unfold Le
  omega
theorem best_keep {f : FormP} {x : CasP} {k : Nat} {b : Int} (h : BestTo f x k b) (hk : healB f x k = true) (hu : ¬ (b < 0 ∨ sumS (cst x) k < sumS (cst x) b ∨ (sumS (cst x) k = sumS (cst x) b /\ cmpS k b < 0))) : BestTo f x (k + 1) b := by
 rcases h with ⟨h1, h2⟩ | ⟨h1, h2, h3, h4⟩
 ·exact absurd (.inl (by omega)) hu
 ·refine .inr ⟨h1, by omega, h3, fun t ht hh => ?_⟩
  by_cases e : t = k
  ·rw [e]
   rw [qY5] at hu
   unfold Le
   omega
  ·exact h4 t (by omega) hh
theorem best_end {f : FormP} {x : CasP} {n : Nat} (h : CasOk f x n) {b : Int} (hb : BestTo f x (x.state.toNat + 1) b) : (b = -1 /\ posE f ≠ 0) ∨ (0 ≤ b /\ posE f = 0 /\ b = (rsV f x).best) := by
 have hst := (qJ3.1 h.st.1)
 have e : ((x.state.toNat : Nat) : Int) = x.state := by omega
 rcases hb with ⟨h1, h2⟩ | ⟨h1, h2, h3, h4⟩
 ·refine .inl ⟨h1, fun h0 => ?_⟩
  have := h2 x.state.toNat (by omega)
  rw [e] at this
  rw [(healB_iff h.st.1).2 (heal_all h h0)] at this
  cases this
 ·have hbv : qQ6 b = true := by rw [qJ3]; omega
  have hh := (healB_iff hbv).1 h3
  have h0 : posE f = 0 := Classical.byContradiction fun hne => no_heal h hne b hh
  obtain ⟨g1, g2, g3, g4⟩ := qB9 h h0
  refine .inr ⟨h1, h0, ?_⟩
  have hle := (part_le h.st.1 g1.1 g2.1).2
  have hbst := qJ3.1 g1.1
  have e2 : (((rsV f x).best.toNat : Nat) : Int) = (rsV f x).best := by omega
  have := h4 (rsV f x).best.toNat (by omega) (by rw [e2]; exact (healB_iff g1.1).2 g2)
  rw [e2] at this
  exact Le.antisymm hbv g1.1 this (g4 b hbv hh)
def qK4 (c : Nat -> Int) (s : Int) : Nat -> Int
 | 0 => -1
 | k + 1 => if bit s k = true /\ (qK4 c s k < 0 ∨ c k < qK4 c s k) then c k else qK4 c s k
theorem leastN_spec {c : Nat -> Int} (hc : ∀ i, 0 ≤ c i) (s : Int) : ∀ k, (qK4 c s k = -1 /\ ∀ i, i < k -> bit s i = false) ∨ (0 ≤ qK4 c s k /\ (∃ i, i < k /\ bit s i = true /\ qK4 c s k = c i) /\ ∀ i, i < k -> bit s i = true -> qK4 c s k ≤ c i)
 | 0 => .inl ⟨rfl, fun i hi => absurd hi (Nat.not_lt_zero _)⟩
 | k + 1 => by
   have hck := hc k
   rw [qK4]
   rcases leastN_spec hc s k with ⟨h1, h2⟩ | ⟨h1, ⟨j, j1, j2, j3⟩, h3⟩
   ·by_cases hb : bit s k = true
    ·rw [if_pos ⟨hb, .inl (by omega)⟩]
     refine .inr ⟨hck, ⟨k, by omega, hb, rfl⟩, fun i hi hbi => ?_⟩
     by_cases e : i = k
     ·rw [e]; exact Int.le_refl _
     ·rw [h2 i (by omega)] at hbi; cases hbi
    ·rw [if_neg (fun h => hb h.1)]
     refine .inl ⟨h1, fun i hi => ?_⟩
     by_cases e : i = k
     ·rw [e]; simpa using hb
     ·exact h2 i (by omega)
   ·by_cases hb : bit s k = true /\ (qK4 c s k < 0 ∨ c k < qK4 c s k)
    ·rw [if_pos hb]
     refine .inr ⟨hck, ⟨k, by omega, hb.1, rfl⟩, fun i hi hbi => ?_⟩
     by_cases e : i = k
     ·rw [e]; exact Int.le_refl _
     ·have := h3 i (by omega) hbi; omega
    ·rw [if_neg hb]
     refine .inr ⟨h1, ⟨j, by omega, j2, j3⟩, fun i hi hbi => ?_⟩
     by_cases e : i = k
     ·subst e
      have : ¬ (qK4 c s i < 0 ∨ c i < qK4 c s i) := fun h' => hb ⟨hbi, h'⟩
      omega
     ·exact h3 i (by omega) hbi
def qK3 (x : CasP) (s : Int) : Int := qK4 (cst x) s x.cost.length
theorem qD4 {c : Nat -> Int} {B : Int} (hc : ∀ i, 0 ≤ c i /\ c i ≤ B) (hB : 0 ≤ B) (s : Int) (k : Nat) : -1 ≤ qK4 c s k /\ qK4 c s k ≤ B := by
 rcases leastN_spec (fun i => (hc i).1) s k with ⟨h1, _⟩ | ⟨h1, ⟨j, _, _, j3⟩, _⟩
 ·omega
 ·have := hc j; omega
def boundF (x : CasP) (yes no : Int) : List Int -> Int -> Int -> Option Int
 | [], _, sum => some sum
 | s :: r, taken, sum => if qK9 .i64 s no ≠ 0 ∨ qK9 .i64 s taken ≠ 0 then boundF x yes no r taken sum
   else if qK3 x (qQ4 .i64 s yes) < 0 then none else boundF x yes no r (ior .i64 taken s) (sum + qK3 x (qQ4 .i64 s yes))
def boundV (x : CasP) (cuts : List Int) (yes no : Int) : Option Int := boundF x yes no cuts 0 (qV4 x (qK9 .i64 x.state no))
def enB (x : CasP) (cuts : List Int) (total yes no : Int) : Bool := match boundV x cuts yes no with
 | none => true
 | some n => decide (total ≤ n)
theorem bound_skip (x : CasP) (yes no : Int) : ∀ (l : List Int) (taken sum : Int), (∀ t ∈ l, qK9 .i64 t no ≠ 0) -> boundF x yes no l taken sum = some sum
 | [], _, _, _ => rfl
 | t :: l, taken, sum, hl => by
   rw [boundF, if_pos (.inl (hl t (.head _)))]
   exact bound_skip x yes no l taken sum fun t ht => hl t (.tail _ ht)
theorem pack_mem {y : Int} : ∀ (l out : List Int) (u : Int), y ∈ packF out u l -> y ∈ out ∨ y ∈ l
 | [], out, u, h => .inl h
 | t :: l, out, u, h => by
   rw [packF] at h
   split at h
   ·rcases pack_mem l _ _ h with h | h
    ·rcases List.mem_append.1 h with h | h
     ·exact .inl h
     ·rw [List.mem_singleton.1 h]; exact .inr (.head _)
    ·exact .inr (.tail _ h)
   ·rcases pack_mem l _ _ h with h | h
    ·exact .inl h
    ·exact .inr (.tail _ h)
theorem pack_out {y : Int} : ∀ (l out : List Int) (u : Int), y ∈ out -> y ∈ packF out u l
 | [], out, u, h => h
 | t :: l, out, u, h => by
   rw [packF]
   split
   ·exact pack_out l _ _ (List.mem_append_left _ h)
   ·exact pack_out l _ _ h
theorem pack_zero : ∀ (l out : List Int) (u : Int), (0 : Int) ∈ l -> (0 : Int) ∈ packF out u l
 | t :: l, out, u, h => by
   rw [packF]
   rcases List.mem_cons.1 h with h | h
   ·subst h
    rw [if_pos (iand_zero.2 fun i _ hi => by simp at hi)]
    exact pack_out _ _ _ (List.mem_append_right _ (.head _))
   ·split
    ·exact pack_zero l _ _ h
    ·exact pack_zero l _ _ h
def cutE (f : FormP) : Int := if (qC2 f).2 = 0 then hitE (qW5 f) else (qC2 f).2
def cutL (f : FormP) (x : CasP) : List Int := (hitL (qW5 f)).filter fun s => decide (qQ4 .i64 s x.state = 0)
theorem cutE_zero {f : FormP} (h1 : qV7 f = 0) (h : cutE f = 0) : pathsE f = 0 /\ hitE (qW5 f) = 0 := by
 unfold cutE qC2 at h
 rw [if_pos h1] at h
 dsimp only at h
 split at h
 ·rename_i h2; exact ⟨h2, h⟩
 ·rename_i h2; exact absurd h h2
theorem cut_facts {f : FormP} {x : CasP} {n : Nat} (h : CasOk f x n) (hc : cutE f = 0) : (∀ t ∈ cutL f x, inN n t /\ qJ5 f t = true /\ Part t x.state) /\ (cutL f x).length ≤ 1024 /\ (∀ s, inN n s -> Part s x.state -> qJ5 f s = true -> ∃ t ∈ cutL f x, Part t s) /\ (cutL f x).Sublist (hitL (qW5 f)) := by
 obtain ⟨h2, h3⟩ := cutE_zero h.pe hc
 obtain ⟨f1, f2, f3⟩ := hit_facts h.pe h.vars h2 h3
 have hin := hit_in h.vars h.pe h2 h3
 have hsub : (cutL f x).Sublist (hitL (qW5 f)) := List.filter_sublist
 refine ⟨fun t ht => ?_, Nat.le_trans hsub.length_le f2.len, fun s hs hp hv => ?_, hsub⟩
 ·obtain ⟨t1, t2⟩ := List.mem_filter.1 ht
  rw [decide_eq_true_iff] at t2
  obtain ⟨u1, u2⟩ := hin t t1
  have := (minP_iff.1 u2).1
  rw [isP_cut] at this
  exact ⟨u1, this, (nz_part u1.1).1 t2⟩
 ·obtain ⟨t, t1, t2⟩ := (f1 s hs).2 hv
  refine ⟨t, List.mem_filter.2 ⟨t1, ?_⟩, t2⟩
  rw [decide_eq_true_iff, nz_part (hin t t1).1.1]
  exact t2.trans hp
theorem cut_zero {f : FormP} {x : CasP} {n : Nat} (h : CasOk f x n) (hc : cutE f = 0) : (0 : Int) ∈ packF [] 0 (minS (cutL f x)) ↔ posE f ≠ 0 := by
 obtain ⟨c1, c2, c3, c4⟩ := cut_facts h hc
 have hv : Val (cutL f x) := fun t ht => (c1 t ht).1.1
 have hpos : posE f ≠ 0 ↔ qJ5 f 0 = true := by
  unfold posE
  split
  ·rename_i hb; simp [hb]
  ·rename_i hb; simp [hb]
 rw [hpos]
 constructor
 ·intro hm
  rcases pack_mem _ _ _ hm with hm | hm
  ·cases hm
  ·exact (c1 0 ((mem_minS hv 0).1 hm).1).2.1
 ·intro hv0
  obtain ⟨t, t1, t2⟩ := c3 0 ⟨valid0, fun i _ => by simp⟩ (bit0 _) hv0
  have e : t = 0 := valid_ext (c1 t t1).1.1 valid0 fun i _ => by
   cases hb : bit t i with
   | false => simp
   | true => have := t2 i hb; simp at this
  rw [e] at t1
  refine pack_zero _ _ _ ((mem_minS hv 0).2 ⟨t1, fun y hy hp => valid_ext (c1 y hy).1.1 valid0 fun i _ => ?_⟩)
  cases hb : bit y i with
  | false => simp
  | true => have := hp i hb; simp at this
def lowE (f : FormP) (x : CasP) : Int := if casE f x = 0 then if cutE f = 0 then posE f else cutE f else casE f x
def lowV (f : FormP) (x : CasP) : Int := if lowE f x = 0 then ((packF [] 0 (minS (cutL f x))).map (qK3 x)).sum else 0
structure RepP where
 set : Int
 total : Int
 cuts : List Int
 tree : Tr
def refB (x : CasP) (cuts : List Int) (total : Int) (l : LeafP) : Bool := if 0 ≤ l.reason then decide (l.reason < cuts.length) && decide (qQ4 .i64 (cuts.getD l.reason.toNat 0) l.yes = 0) else decide (l.reason = -1) && enB x cuts total l.yes l.no
def rvE (f : FormP) (x : CasP) (r : RepP) : Int := if casE f x = 0 then if setE f.vars r.cuts = 0 then splE r.tree f.vars else setE f.vars r.cuts else casE f x
def cutB (f : FormP) (x : CasP) (s : Int) : Bool := decide (qQ4 .i64 s x.state = 0) && qJ5 f s
def rvB (f : FormP) (x : CasP) (r : RepP) : Bool := decide (qQ4 .i64 r.set x.state = 0) && decide (qV4 x r.set = r.total) && !qJ5 f (qQ4 .i64 x.state r.set) && r.cuts.all (cutB f x) && (lvs r.tree 0 0).all (refB x r.cuts r.total)
def qA5 (cuts : List Int) (en : Int -> Int -> Bool) : Nat -> Int -> Int -> Int -> Tr × Int × Int
 | 0, _, _, c => (.no, c, 0)
 | f + 1, yes, no, c => if 4096 < c + 1 then (.no, c + 1, 4) else
   match inYes cuts yes with
   | some i => (.lf i, c + 1, 0)
   | none => if en yes no = true then (.lf (-1), c + 1, 0) else
     match offNo cuts no with
      | none => (.no, c + 1, 15)
      | some i =>
        if (qA5 cuts en f yes (ior .i64 no (Go.Pu.one (qV2 cuts yes i))) (c + 1)).2.2 = 0 then
         (Tr.two (qV2 cuts yes i) (qA5 cuts en f yes (ior .i64 no (Go.Pu.one (qV2 cuts yes i))) (c + 1)).1 (qA5 cuts en f (ior .i64 yes (Go.Pu.one (qV2 cuts yes i))) no (qA5 cuts en f yes (ior .i64 no (Go.Pu.one (qV2 cuts yes i))) (c + 1)).2.1).1,
          (qA5 cuts en f (ior .i64 yes (Go.Pu.one (qV2 cuts yes i))) no (qA5 cuts en f yes (ior .i64 no (Go.Pu.one (qV2 cuts yes i))) (c + 1)).2.1).2)
        else (.no, (qA5 cuts en f yes (ior .i64 no (Go.Pu.one (qV2 cuts yes i))) (c + 1)).2)
def growS (cuts : List Int) (en : Int -> Int -> Bool) : Nat -> Int -> Int -> Int -> Tr × Int
 | 0, _, _, l => (.no, l)
 | f + 1, yes, no, l => if l - 1 < 0 then (.no, l - 1) else
   match inYes cuts yes with
   | some i => (.lf i, l - 1)
   | none => if en yes no = true then (.lf (-1), l - 1) else
     match offNo cuts no with
      | none => (.no, l - 1)
      | some i =>
        (Tr.two (qV2 cuts yes i) (growS cuts en f yes (ior .i64 no (Go.Pu.one (qV2 cuts yes i))) (l - 1)).1 (growS cuts en f (ior .i64 yes (Go.Pu.one (qV2 cuts yes i))) no (growS cuts en f yes (ior .i64 no (Go.Pu.one (qV2 cuts yes i))) (l - 1)).2).1,
         (growS cuts en f (ior .i64 yes (Go.Pu.one (qV2 cuts yes i))) no (growS cuts en f yes (ior .i64 no (Go.Pu.one (qV2 cuts yes i))) (l - 1)).2).2)
theorem growS_neg (cuts : List Int) (en : Int -> Int -> Bool) (f : Nat) (yes no l : Int) (h : l ≤ 0) : growS cuts en (f + 1) yes no l = (.no, l - 1) := by
 rw [growS, if_pos (by omega)]
section
variable {n : Nat} {cuts : List Int} {en : Int -> Int -> Bool}
theorem growQ_ref (hn : n ≤ 24) (hc : ∀ x ∈ cuts, inN n x) (H : ∀ yes no, en yes no = false -> offNo cuts no ≠ none) : ∀ (f : Nat) (yes no c : Int), 0 ≤ c -> c ≤ 4096 -> freeC yes no < f ->
  ((qA5 cuts en f yes no c).2.2 = 0 /\ c < (qA5 cuts en f yes no c).2.1 /\ (qA5 cuts en f yes no c).2.1 ≤ 4096 /\ growS cuts en f yes no (4096 - c) = ((qA5 cuts en f yes no c).1, 4096 - (qA5 cuts en f yes no c).2.1)) ∨
    ((qA5 cuts en f yes no c).2.2 = 4 /\ c < (qA5 cuts en f yes no c).2.1 /\ (qA5 cuts en f yes no c).2.1 ≤ 4097 /\ (growS cuts en f yes no (4096 - c)).2 < 0)
 | 0, _, _, _, _, _, h => absurd h (Nat.not_lt_zero _)
 | f + 1, yes, no, c, h0, h1, hf => by
   rw [qA5, growS]
   by_cases hbig : 4096 < c + 1
   ·rw [if_pos hbig, if_pos (show 4096 - c - 1 < 0 by omega)]
    exact .inr ⟨rfl, by simp only; omega, by simp only; omega, by simp only; omega⟩
   rw [if_neg hbig, if_neg (show ¬ 4096 - c - 1 < 0 by omega)]
   cases hy : inYes cuts yes with
   | some i => dsimp only; exact .inl ⟨rfl, by omega, by omega, Prod.ext rfl (by simp only; omega)⟩
   | none =>
   dsimp only
   cases hp : en yes no with
   | true => rw [if_pos (rfl : true = true), if_pos (rfl : true = true)]; exact .inl ⟨rfl, by simp only; omega, by simp only; omega, Prod.ext rfl (by simp only; omega)⟩
   | false =>
   cases ho : offNo cuts no with
   | none => exact absurd ho (H yes no hp)
   | some i =>
     obtain ⟨v1, v2, v3⟩ := next_spec hn hc hy ho
     have fa := free_no (yes := yes) (no := no) (by omega) v2 v3
     have fb := free_yes (yes := yes) (no := no) (by omega) v2 v3
     simp only [Bool.false_eq_true, if_false]
     generalize qV2 cuts yes i = v at *
     have ia := growQ_ref hn hc H f yes (ior .i64 no (Go.Pu.one v)) (c + 1) (by omega) (by omega) (by omega)
     rw [show 4096 - c - 1 = 4096 - (c + 1) by omega]
     generalize qA5 cuts en f yes (ior .i64 no (Go.Pu.one v)) (c + 1) = A at *
     generalize growS cuts en f yes (ior .i64 no (Go.Pu.one v)) (4096 - (c + 1)) = RA at *
     rcases ia with ⟨a1, a2, a3, a4⟩ | ⟨a1, a2, a3, a4⟩
     ·rw [if_pos a1]
      have ib := growQ_ref hn hc H f (ior .i64 yes (Go.Pu.one v)) no A.2.1 (by omega) (by omega) (by omega)
      rw [a4]
      dsimp only
      generalize qA5 cuts en f (ior .i64 yes (Go.Pu.one v)) no A.2.1 = B at *
      generalize growS cuts en f (ior .i64 yes (Go.Pu.one v)) no (4096 - A.2.1) = RB at *
      rcases ib with ⟨b1, b2, b3, b4⟩ | ⟨b1, b2, b3, b4⟩
      ·exact .inl ⟨b1, by omega, b3, by rw [b4]⟩
      ·exact .inr ⟨b1, by omega, b3, b4⟩
     ·rw [if_neg (by omega)]
      refine .inr ⟨a1, by simp only; omega, a3, ?_⟩
      obtain ⟨g, rfl⟩ : ∃ g, f = g + 1 := ⟨f - 1, by omega⟩
      rw [growS_neg _ _ _ _ _ _ (by omega)]
      simp only; omega
theorem growQ_tree {x : CasP} {total : Int} (hn : n ≤ 24) (hc : ∀ x ∈ cuts, inN n x) : ∀ (f : Nat) (yes no c : Int), freeC yes no < f -> (qA5 cuts (enB x cuts total) f yes no c).2.2 = 0 ->
  okT n (qA5 cuts (enB x cuts total) f yes no c).1 (ior .i64 yes no) /\ cntN (qA5 cuts (enB x cuts total) f yes no c).1 = (qA5 cuts (enB x cuts total) f yes no c).2.1 - c /\ ∀ l ∈ lvs (qA5 cuts (enB x cuts total) f yes no c).1 yes no, refB x cuts total l = true
 | 0, _, _, _, h => absurd h (Nat.not_lt_zero _)
 | f + 1, yes, no, c, hf => by
   rw [qA5]
   by_cases hbig : 4096 < c + 1
   ·rw [if_pos hbig]; intro h; cases h
   rw [if_neg hbig]
   cases hy : inYes cuts yes with
   | some i =>
     intro _
     obtain ⟨q1, q2⟩ := inYes_some hy
     dsimp only
     refine ⟨okT_lf _ _ _, by rw [cntN_lf]; omega, fun l hl => ?_⟩
     rw [lvs_eq, if_neg (by simp)] at hl
     rw [List.mem_singleton] at hl
     subst hl
     show (if (0 : Int) ≤ (i : Int) then decide ((i : Int) < cuts.length) && decide (qQ4 .i64 (cuts.getD (Int.toNat (i : Int)) 0) yes = 0) else decide ((i : Int) = -1) && enB x cuts total yes no) = true
     rw [if_pos (show (0 : Int) ≤ (i : Int) by omega)]
     rw [Int.toNat_natCast, q2, decide_eq_true (show (i : Int) < cuts.length by omega)]; rfl
   | none =>
   dsimp only
   cases hp : enB x cuts total yes no with
   | true =>
     rw [if_pos (rfl : true = true)]
     intro _
     refine ⟨okT_lf _ _ _, by rw [cntN_lf]; simp only; omega, fun l hl => ?_⟩
     rw [lvs_eq, if_neg (by simp)] at hl
     rw [List.mem_singleton] at hl
     subst hl
     show (if (0 : Int) ≤ -1 then decide ((-1 : Int) < cuts.length) && decide (qQ4 .i64 (cuts.getD (Int.toNat (-1)) 0) yes = 0) else decide ((-1 : Int) = -1) && enB x cuts total yes no) = true
     rw [if_neg (show ¬ (0 : Int) ≤ -1 by omega)]
     rw [hp]; rfl
   | false =>
   cases ho : offNo cuts no with
   | none => simp only [Bool.false_eq_true, if_false]; intro h; cases h
   | some i =>
     obtain ⟨v1, v2, v3⟩ := next_spec hn hc hy ho
     have fa := free_no (yes := yes) (no := no) (by omega) v2 v3
     have fb := free_yes (yes := yes) (no := no) (by omega) v2 v3
     simp only [Bool.false_eq_true, if_false]
     generalize qV2 cuts yes i = v at *
     have ia := growQ_tree (x := x) (total := total) hn hc f yes (ior .i64 no (Go.Pu.one v)) (c + 1) (by omega)
     generalize qA5 cuts (enB x cuts total) f yes (ior .i64 no (Go.Pu.one v)) (c + 1) = A at *
     by_cases a0 : A.2.2 = 0
     ·rw [if_pos a0]
      have ib := growQ_tree (x := x) (total := total) hn hc f (ior .i64 yes (Go.Pu.one v)) no A.2.1 (by omega)
      generalize qA5 cuts (enB x cuts total) f (ior .i64 yes (Go.Pu.one v)) no A.2.1 = B at *
      intro b0
      obtain ⟨a1, a2, a3⟩ := ia a0
      obtain ⟨b1, b2, b3⟩ := ib b0
      have e1 : qW0 1 (v : Int) = Go.Pu.one v := rfl
      refine ⟨(okT_two ..).2 ⟨by omega, by omega, ?_, ?_, ?_⟩, ?_, fun l hl => ?_⟩
      ·rw [bitB_bit _ (by omega) (by omega), Int.toNat_natCast, qK1, v2, v3]; rfl
      ·refine okT_le (by omega) (fun j hj => ?_) a1
       rw [e1, qK1, qK1] at hj
       rw [qK1, qK1, <-Bool.or_assoc]; exact hj
      ·refine okT_le (by omega) (fun j hj => ?_) b1
       rw [e1, qK1, qK1] at hj
       rw [qK1, qK1]
       revert hj
       cases bit yes j <;> cases bit no j <;> cases bit (Go.Pu.one v) j <;> simp
      ·rw [cntN_two, a2, b2]; simp only; omega
      ·rw [lvs_eq, if_pos (by simp)] at hl
       rcases List.mem_append.1 hl with hl | hl
       ·exact a3 l hl
       ·exact b3 l hl
     ·rw [if_neg a0]
      intro h; exact absurd h a0
end
def rmkG (f : FormP) (x : CasP) : Tr × Int × Int := qA5 (cutL f x) (enB x (cutL f x) (rsV f x).total) 25 0 0 0
def rmkE (f : FormP) (x : CasP) : Int := if casE f x = 0 then if posE f = 0 then if cutE f = 0 then (rmkG f x).2.2 else cutE f else posE f else casE f x
def rmkR (f : FormP) (x : CasP) : RepP := if rmkE f x = 0 then ⟨(rsV f x).best, (rsV f x).total, cutL f x, (rmkG f x).1⟩ else ⟨0, 0, [], .no⟩
theorem rmkE_zero {f : FormP} {x : CasP} (h : rmkE f x = 0) : casE f x = 0 /\ posE f = 0 /\ cutE f = 0 /\ (rmkG f x).2.2 = 0 := by
 unfold rmkE at h
 split at h
 ·rename_i h1
  split at h
  ·rename_i h2
   split at h
   ·rename_i h3; exact ⟨h1, h2, h3, h⟩
   ·rename_i h3; exact absurd h h3
  ·rename_i h2; exact absurd h h2
 ·rename_i h1; exact absurd h h1
theorem rmk_off {f : FormP} {x : CasP} {n : Nat} (h : CasOk f x n) (h0 : posE f = 0) (hc : cutE f = 0) (yes no : Int) (he : enB x (cutL f x) (rsV f x).total yes no = false) : offNo (cutL f x) no ≠ none := by
 intro hnone
 have hn := h.n24
 obtain ⟨c1, c2, c3, c4⟩ := cut_facts h hc
 have hall : ∀ t ∈ cutL f x, qK9 .i64 t no ≠ 0 := fun t ht => by
  obtain ⟨i, hi, rfl⟩ := List.getElem_of_mem ht
  have := qC5.1 hnone i hi
  rw [List.getD_eq_getElem?_getD, List.getElem?_eq_getElem hi, Option.getD_some, beq_eq_false_iff_ne] at this
  exact this
 have hin : inN n (qK9 .i64 x.state no) := inN_iand hn h.st
 unfold enB boundV at he
 rw [bound_skip x yes no _ _ _ hall, price_sum h hin] at he
 simp only [decide_eq_false_iff_not] at he
 obtain ⟨g1, g2, g3, g4⟩ := qB9 h h0
 have hh : Heals f x (qK9 .i64 x.state no) := by
  refine ⟨fun i hi => by rw [bit_iand, Bool.and_eq_true] at hi; exact hi.1, ?_⟩
  cases hb : qJ5 f (qQ4 .i64 x.state (qK9 .i64 x.state no)) with
  | false => rfl
  | true =>
    exfalso
    obtain ⟨t, t1, t2⟩ := c3 _ (qW7 hn h.st) (fun i hi => by rw [qZ4, Bool.and_eq_true] at hi; exact hi.1) hb
    refine hall t t1 (iand_zero.2 fun i hi hbi => ?_)
    have := t2 i hbi
    rw [qZ4, bit_iand, Bool.and_eq_true] at this
    obtain ⟨u1, u2⟩ := this
    rw [u1] at u2
    simpa using u2
 have := g4 _ hin.1 hh
 rw [g3] at he
 unfold Le at this
 omega
theorem rmk_ref {f : FormP} {x : CasP} {n : Nat} (h : CasOk f x n) (h0 : posE f = 0) (hc : cutE f = 0) : ((rmkG f x).2.2 = 0 /\ growS (cutL f x) (enB x (cutL f x) (rsV f x).total) 25 0 0 4096 = ((rmkG f x).1, 4096 - (rmkG f x).2.1) /\ (rmkG f x).2.1 ≤ 4096) ∨ ((rmkG f x).2.2 = 4 /\ (growS (cutL f x) (enB x (cutL f x) (rsV f x).total) 25 0 0 4096).2 < 0) := by
 obtain ⟨c1, c2, c3, c4⟩ := cut_facts h hc
 have := growQ_ref h.n24 (fun t ht => (c1 t ht).1) (rmk_off h h0 hc) 25 0 0 0 (by decide) (by decide) (Nat.lt_succ_of_le (free_le 0 0))
 rw [show (4096 : Int) - 0 = 4096 by decide] at this
 rcases this with ⟨a1, a2, a3, a4⟩ | ⟨a1, a2, a3, a4⟩
 ·exact .inl ⟨a1, a4, a3⟩
 ·exact .inr ⟨a1, a4⟩
theorem rmk_ok {f : FormP} {x : CasP} (h : rmkE f x = 0) : rvE f x (rmkR f x) = 0 /\ rvB f x (rmkR f x) = true := by
 obtain ⟨h1, h2, h3, h4⟩ := rmkE_zero h
 obtain ⟨n, ok⟩ := casE_ok h1
 have hn := ok.n24
 obtain ⟨c1, c2, c3, c4⟩ := cut_facts ok h3
 obtain ⟨g1, g2, g3, g4⟩ := qB9 ok h2
 have e : rmkR f x = ⟨(rsV f x).best, (rsV f x).total, cutL f x, (rmkG f x).1⟩ := by rw [rmkR, if_pos h]
 obtain ⟨t1, t2, t3⟩ := growQ_tree (x := x) (total := (rsV f x).total) hn (fun t ht => (c1 t ht).1) 25 0 0 0 (Nat.lt_succ_of_le (free_le 0 0)) h4
 have href := rmk_ref ok h2 h3
 have hle : (rmkG f x).2.1 ≤ 4096 := by
  rcases href with ⟨_, _, h⟩ | ⟨h, _⟩
  ·exact h
  ·rw [h4] at h; cases h
 have hG : qA5 (cutL f x) (enB x (cutL f x) (rsV f x).total) 25 0 0 0 = rmkG f x := rfl
 rw [hG] at t1 t2 t3
 rw [e]
 constructor
 ·unfold rvE
  rw [if_pos h1, if_pos (show setE f.vars (cutL f x) = 0 by rw [ok.vars]; exact setE_of hn c2 fun t ht => (c1 t ht).1), ok.vars]
  exact splE_of (by omega) (by omega) t1 (by rw [t2]; omega)
 ·unfold rvB
  simp only [Bool.and_eq_true, decide_eq_true_iff, Bool.not_eq_true']
  refine ⟨⟨⟨⟨(nz_part g1.1).2 g2.1, by rw [price_sum ok g1, g3]⟩, g2.2⟩, List.all_eq_true.2 fun t ht => ?_⟩, List.all_eq_true.2 t3⟩
  obtain ⟨u1, u2, u3⟩ := c1 t ht
  unfold cutB
  rw [(nz_part u1.1).2 u3, u2]; rfl
theorem sumN_le {c d : Nat -> Int} (h : ∀ i, c i ≤ d i) (s : Int) : ∀ k, sumN c s k ≤ sumN d s k
 | 0 => by simp [sumN]
 | k + 1 => by
   have := sumN_le h s k
   have := h k
   simp only [sumN]
   cases bit s k <;> simp <;> omega
theorem sumN_one {c d : Nat -> Int} {j : Nat} {e : Int} (he : 0 ≤ e) (h : ∀ i, i ≠ j -> d i = c i) (hj : d j ≤ c j + e) (s : Int) : ∀ k, sumN d s k ≤ sumN c s k + if j < k then e else 0
 | 0 => by simp [sumN]
 | k + 1 => by
   have ih := sumN_one he h hj s k
   simp only [sumN]
   by_cases hk : j = k
   ·subst hk
    rw [if_neg (Nat.lt_irrefl _)] at ih
    rw [if_pos (show j < j + 1 by omega)]
    cases bit s j <;> simp <;> omega
   ·have := h k (fun e => hk e.symm)
    by_cases hlt : j < k
    ·rw [if_pos hlt] at ih
     rw [if_pos (show j < k + 1 by omega)]
     cases bit s k <;> simp <;> omega
    ·rw [if_neg hlt] at ih
     rw [if_neg (show ¬ j < k + 1 by omega)]
     cases bit s k <;> simp <;> omega
theorem worse_le {f : FormP} {x y : CasP} {n : Nat} (hx : CasOk f x n) (hy : CasOk f y n) (hc : y.cost = x.cost) (hp : Part x.state y.state) (h0 : posE f = 0) : (rsV f x).total ≤ (rsV f y).total := by
 have hn := hx.n24
 obtain ⟨a1, a2, a3, a4⟩ := qB9 hx h0
 obtain ⟨b1, b2, b3, b4⟩ := qB9 hy h0
 have hcc : cst y = cst x := by unfold cst; rw [hc]
 have hin := inN_iand (y := x.state) hn b1
 have hh : Heals f x (qK9 .i64 (rsV f y).best x.state) := by
  refine ⟨fun i hi => by rw [bit_iand, Bool.and_eq_true] at hi; exact hi.2, ?_⟩
  cases hb : qJ5 f (qQ4 .i64 x.state (qK9 .i64 (rsV f y).best x.state)) with
  | false => rfl
  | true =>
    exfalso
    have := value_mono hx _ (qQ4 .i64 y.state (rsV f y).best) (qW7 hn hx.st) (qW7 hn hy.st) (fun i hi => by
     rw [qZ4, bit_iand, Bool.and_eq_true] at hi
     obtain ⟨u1, u2⟩ := hi
     rw [u1] at u2
     rw [qZ4, hp i u1]
     simpa using u2) hb
    rw [b2.2] at this; cases this
 have h1 := a4 _ hin.1 hh
 have h2 := sumS_mono (c := cst x) (fun i _ => (hx.cost i).1) (show Part (qK9 .i64 (rsV f y).best x.state) (rsV f y).best from fun i hi => by rw [bit_iand, Bool.and_eq_true] at hi; exact hi.1)
 rw [a3, b3, hcc]
 unfold Le at h1
 omega
theorem dear_le {f : FormP} {x y : CasP} {n : Nat} (hx : CasOk f x n) (hy : CasOk f y n) (hs : y.state = x.state) (hc : ∀ i, cst x i ≤ cst y i) (h0 : posE f = 0) : (rsV f x).total ≤ (rsV f y).total := by
 obtain ⟨a1, a2, a3, a4⟩ := qB9 hx h0
 obtain ⟨b1, b2, b3, b4⟩ := qB9 hy h0
 have hh : Heals f x (rsV f y).best := by
  have := b2
  unfold Heals at this ⊢
  rw [hs] at this; exact this
 have h1 := a4 _ b1.1 hh
 have h2 := sumN_le hc (rsV f y).best 24
 rw [a3, b3]
 unfold Le at h1
 unfold sumS at *
 omega
theorem dear_most {f : FormP} {x y : CasP} {n : Nat} (hx : CasOk f x n) (hy : CasOk f y n) (hs : y.state = x.state) {j : Nat} {e : Int} (he : 0 ≤ e) (hc : ∀ i, i ≠ j -> cst y i = cst x i) (hj : cst y j ≤ cst x j + e) (h0 : posE f = 0) : (rsV f y).total ≤ (rsV f x).total + e := by
 obtain ⟨a1, a2, a3, a4⟩ := qB9 hx h0
 obtain ⟨b1, b2, b3, b4⟩ := qB9 hy h0
 have hh : Heals f y (rsV f x).best := by
  have := a2
  unfold Heals at this ⊢
  rw [hs]; exact this
 have h1 := b4 _ a1.1 hh
 have h2 := sumN_one he hc hj (rsV f x).best 24
 have h3 : (if j < 24 then e else 0) ≤ e := by split <;> omega
 rw [a3, b3]
 unfold Le at h1
 unfold sumS at *
 omega
end Go.Proofs.YtgoilpfpmbjegaaGreatDoor
end
