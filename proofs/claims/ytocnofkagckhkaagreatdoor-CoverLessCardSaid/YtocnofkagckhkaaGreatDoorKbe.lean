/-
 PuP, FqA, FqE, FqI, FqJ, FmK, FqK, FqL, PuQ, FqM, TrA, TrB, TrD, PuV, PuW, one text.
-/
import Derived.Test.YtocnofkagckhkaaGreatDoorKbd
set_option linter.unusedSectionVars false
set_option linter.unusedVariables false
set_option linter.unusedSimpArgs false
section
namespace Go.Pu
open Go.Sy
variable [Drw]
abbrev LS := List Int
def plusP (a b : LS) : LS × Int := if bothE a b = 0 then (limL (minS (a ++ b)), limE (minS (a ++ b))) else ([], bothE a b)
def prodP (a b : LS) : LS × Int := if bothE a b = 0 then (limL (minS (unionsC a b)), limE (minS (unionsC a b))) else ([], bothE a b)
theorem listE_val {l : LS} (h : listE l = 0) : Val l /\ l.length ≤ 1024 := by
 unfold listE at h
 split at h
 ·cases h
 ·split at h
  ·rename_i h1 h2; exact ⟨fun x hx => (List.all_eq_true.1 h2) x hx, by omega⟩
  ·cases h
theorem bothE_val {a b : LS} (h : bothE a b = 0) : (Val a /\ a.length ≤ 1024) /\ (Val b /\ b.length ≤ 1024) := by
 unfold bothE at h
 split at h
 ·rename_i h1; exact ⟨listE_val h1, listE_val h⟩
 ·rename_i h1; exact absurd h h1
theorem plus_ref (a b : LS) : plusP a b = if bothE a b = 0 then (limL (leastS (a ++ b)), limE (leastS (a ++ b))) else ([], bothE a b) := by
 unfold plusP
 split
 ·rename_i h
  obtain ⟨⟨ha, _⟩, hb, _⟩ := bothE_val h
  rw [minS_eq (ha.append hb)]
 ·rfl
theorem prod_ref (a b : LS) : prodP a b = if bothE a b = 0 then (limL (leastS (unionsL a b)), limE (leastS (unionsL a b))) else ([], bothE a b) := by
 unfold prodP
 split
 ·rename_i h
  obtain ⟨⟨ha, _⟩, hb, _⟩ := bothE_val h
  rw [minS_unionsC ha hb, minS_eq (ha.unionsL hb)]
 ·rfl
theorem plus_fam {a b : LS} (h : (plusP a b).2 = 0) : Fam (plusP a b).1 := by
 unfold plusP at h ⊢
 split at h
 ·rename_i hb
  rw [if_pos hb]
  obtain ⟨⟨ha, _⟩, hb', _⟩ := bothE_val hb
  obtain ⟨h1, h2⟩ := limL_zero h
  simp only [h1]
  exact ⟨(ha.append hb').minS, h2, (anti_min (ha.append hb')).2.1⟩
 ·rename_i hb; exact absurd h hb
theorem prod_fam {a b : LS} (h : (prodP a b).2 = 0) : Fam (prodP a b).1 := by
 unfold prodP at h ⊢
 split at h
 ·rename_i hb
  rw [if_pos hb]
  obtain ⟨⟨ha, _⟩, hb', _⟩ := bothE_val hb
  obtain ⟨h1, h2⟩ := limL_zero h
  simp only [h1]
  exact ⟨(ha.unionsC hb').minS, h2, (anti_min (ha.unionsC hb')).2.1⟩
 ·rename_i hb; exact absurd h hb
def foldP (op : LS -> LS -> LS × Int) : List LS -> LS -> LS × Int
 | [], acc => (acc, 0)
 | r :: rs, acc => if (op acc r).2 = 0 then foldP op rs (op acc r).1 else ([], (op acc r).2)
def voteJ (row : LS) : Nat -> List LS -> List LS × Int
 | 0, tab => (tab, 0)
 | j + 1, tab => if (prodP (tab.getD j []) row).2 = 0 then
     if (plusP (tab.getD (j + 1) []) (prodP (tab.getD j []) row).1).2 = 0 then voteJ row j (tab.set (j + 1) (plusP (tab.getD (j + 1) []) (prodP (tab.getD j []) row).1).1)
     else ([], (plusP (tab.getD (j + 1) []) (prodP (tab.getD j []) row).1).2)
  else ([], (prodP (tab.getD j []) row).2)
def voteR (k : Nat) : List LS -> List LS -> List LS × Int
 | [], tab => (tab, 0)
 | r :: rs, tab => if (voteJ r k tab).2 = 0 then voteR k rs (voteJ r k tab).1 else ([], (voteJ r k tab).2)
def tab0 (k : Nat) : List LS := (List.replicate (k + 1) []).set 0 [0]
def voteP (rows : List LS) (k : Nat) : LS × Int := if (voteR k rows (tab0 k)).2 = 0 then ((voteR k rows (tab0 k)).1.getD k [], 0) else ([], (voteR k rows (tab0 k)).2)
def nodePS (kind k : Int) (rows : List LS) : LS × Int :=
 if kind = 0 then (if k = 0 then [0] else [], 0)
 else if kind = 3 then foldP prodP rows [0]
 else if kind = 2 then foldP plusP rows []
 else voteP rows ((rows.length : Int) - k + 1).toNat
def runP : List NodeP -> List LS -> List LS × Int
 | [], fam => (fam, 0)
 | x :: r, fam => if (nodePS x.kind x.k (x.args.map fun a => fam.getD a.toNat [])).2 = 0 then runP r (fam ++ [(nodePS x.kind x.k (x.args.map fun a => fam.getD a.toNat [])).1])
   else ([], (nodePS x.kind x.k (x.args.map fun a => fam.getD a.toNat [])).2)
theorem runP_append : ∀ (l : List NodeP) (fam : List LS) (x : NodeP), (runP l fam).2 = 0 -> runP (l ++ [x]) fam = runP [x] (runP l fam).1
 | [], fam, x, _ => rfl
 | y :: l, fam, x, h => by
   rw [runP] at h
   split at h
   ·rename_i h1
    rw [List.cons_append, runP, if_pos h1, runP_append l _ x h]
    rw [show runP (y :: l) fam = _ from by rw [runP, if_pos h1]]
   ·rename_i h1; exact absurd h h1
theorem runP_bad : ∀ (l l' : List NodeP) (fam : List LS), ¬ (runP l fam).2 = 0 -> runP (l ++ l') fam = runP l fam
 | [], l', fam, h => absurd rfl h
 | y :: l, l', fam, h => by
   rw [List.cons_append, runP]
   rw [runP] at h ⊢
   split
   ·rename_i h1; rw [if_pos h1] at h; exact runP_bad l l' _ h
   ·rfl
theorem runP_length : ∀ (l : List NodeP) (fam : List LS), (runP l fam).2 = 0 -> (runP l fam).1.length = fam.length + l.length
 | [], fam, _ => by simp [runP]
 | x :: l, fam, h => by
   rw [runP] at h ⊢
   split at h
   ·rename_i h1
    rw [if_pos h1, runP_length l _ h]; simp; omega
   ·rename_i h1; exact absurd h h1
def fam0 (n : Nat) : List LS := (List.range n).map fun i => [one i]
def pathsE (f : FormP) : Int := (runP (trimF f).nodes (fam0 f.vars.toNat)).2
def pathsL (f : FormP) : LS := if pathsE f = 0 then (runP (trimF f).nodes (fam0 f.vars.toNat)).1.getD (trimF f).top.toNat [] else []
def argR (n : Nat) (tab : List LS) (a : Int) : LS := if a < n then [one a.toNat] else tab.getD (a - n).toNat []
def runR (n : Nat) (ns : List NodeP) (m : List Bool) : Nat -> List LS × Int
 | 0 => (List.replicate ns.length [], 0)
 | i + 1 => if (runR n ns m i).2 = 0 then
     if m.getD (n + i) false = true then
      if (nodePS (ns.getD i node0).kind (ns.getD i node0).k ((ns.getD i node0).args.map (argR n (runR n ns m i).1))).2 = 0 then ((runR n ns m i).1.set i (nodePS (ns.getD i node0).kind (ns.getD i node0).k ((ns.getD i node0).args.map (argR n (runR n ns m i).1))).1, 0)
      else ([], (nodePS (ns.getD i node0).kind (ns.getD i node0).k ((ns.getD i node0).args.map (argR n (runR n ns m i).1))).2)
     else runR n ns m i
  else runR n ns m i
theorem runP_one (x : NodeP) (fam : List LS) : runP [x] fam = if (nodePS x.kind x.k (x.args.map fun a => fam.getD a.toNat [])).2 = 0 then (fam ++ [(nodePS x.kind x.k (x.args.map fun a => fam.getD a.toNat [])).1], 0) else ([], (nodePS x.kind x.k (x.args.map fun a => fam.getD a.toNat [])).2) := by
 rw [runP]; rfl
theorem runR_succ (n : Nat) (ns : List NodeP) (m : List Bool) (i : Nat) : runR n ns m (i + 1) = if (runR n ns m i).2 = 0 then
   if m.getD (n + i) false = true then
    if (nodePS (ns.getD i node0).kind (ns.getD i node0).k ((ns.getD i node0).args.map (argR n (runR n ns m i).1))).2 = 0 then ((runR n ns m i).1.set i (nodePS (ns.getD i node0).kind (ns.getD i node0).k ((ns.getD i node0).args.map (argR n (runR n ns m i).1))).1, 0)
    else ([], (nodePS (ns.getD i node0).kind (ns.getD i node0).k ((ns.getD i node0).args.map (argR n (runR n ns m i).1))).2)
   else runR n ns m i
  else runR n ns m i := rfl
theorem getD_app_left {α : Type} {l : List α} {x d : α} {i : Nat} (h : i < l.length) : (l ++ [x]).getD i d = l.getD i d := by
 simp [List.getD_eq_getElem?_getD, List.getElem?_append_left h]
theorem getD_app_last {α : Type} {l : List α} {x d : α} {i : Nat} (h : i = l.length) : (l ++ [x]).getD i d = x := by
 subst h; simp [List.getD_eq_getElem?_getD]
theorem getD_set_far {α : Type} {l : List α} {x d : α} {i j : Nat} (h : i ≠ j) : (l.set i x).getD j d = l.getD j d := by
 simp [List.getD_eq_getElem?_getD, List.getElem?_set_ne h]
theorem getD_set_at {α : Type} {l : List α} {x d : α} {i : Nat} (h : i < l.length) : (l.set i x).getD i d = x := by
 simp [List.getD_eq_getElem?_getD, h]
section
variable {n : Nat} {ns : List NodeP} {m : List Bool}
theorem run_eq (hcl : ∀ (i : Nat) (h : i < ns.length), m.getD (n + i) false = true -> ∀ a ∈ ns[i].args, m.getD a.toNat false = true /\ 0 ≤ a /\ a.toNat < n + i) : ∀ i, i ≤ ns.length ->
  (runP (trimN n ns m i).2 (fam0 n)).2 = (runR n ns m i).2 /\ ((runR n ns m i).2 = 0 -> (runR n ns m i).1.length = ns.length /\
   ∀ j, j < n + i -> m.getD j false = true -> 0 ≤ (trimN n ns m i).1.getD j 0 /\ ((trimN n ns m i).1.getD j 0).toNat < n + (trimN n ns m i).2.length /\ argR n (runR n ns m i).1 j = (runP (trimN n ns m i).2 (fam0 n)).1.getD ((trimN n ns m i).1.getD j 0).toNat [])
 | 0, _ => by
   refine ⟨rfl, fun _ => ⟨by simp [runR], fun j hj _ => ?_⟩⟩
   have hj' : j < n := by omega
   have e : (trimN n ns m 0).1.getD j 0 = (j : Int) := by
    simp [trimN, List.getD_eq_getElem?_getD, show j < n + ns.length by omega, hj']
   rw [e]
   refine ⟨by omega, by simp [trimN]; omega, ?_⟩
   simp [argR, runP, trimN, fam0, List.getD_eq_getElem?_getD, hj']
 | i + 1, hi => by
   obtain ⟨ih1, ih2⟩ := run_eq hcl i (by omega)
   have hi' : i < ns.length := by omega
   have htl := trimN_len n ns m i
   have e1 := trimN_succ n ns m i
   have e2 := runR_succ n ns m i
   have hX : ns.getD i node0 = ns[i] := by simp [List.getD_eq_getElem?_getD, hi']
   by_cases h0 : (runR n ns m i).2 = 0
   ·obtain ⟨hlen, hrel⟩ := ih2 h0
    rw [if_pos h0] at e2
    by_cases hm : m.getD (n + i) false = true
    ·rw [if_pos hm] at e1 e2
     have hP0 : (runP (trimN n ns m i).2 (fam0 n)).2 = 0 := by rw [ih1, h0]
     have hfl : (runP (trimN n ns m i).2 (fam0 n)).1.length = n + (trimN n ns m i).2.length := by rw [runP_length _ _ hP0]; simp [fam0]
     have hc := hcl i hi' hm
     rw [hX] at e1 e2
     generalize ns[i] = X at hc e1 e2
     generalize hTT : trimN n ns m i = TT at *
     obtain ⟨mv, kept⟩ := TT
     generalize hRR : runR n ns m i = RR at *
     obtain ⟨tab, er⟩ := RR
     simp only at h0 hlen hrel e1 e2 hP0 hfl htl
     generalize hFF : runP kept (fam0 n) = FF at *
     obtain ⟨fam, fe⟩ := FF
     simp only at hP0 hfl hrel
     have hrows : X.args.map (argR n tab) = (X.args.map fun a => mv.getD a.toNat 0).map fun a => fam.getD a.toNat [] := by
      rw [List.map_map]
      refine List.map_congr_left fun a ha => ?_
      obtain ⟨k1, k2, k3⟩ := hc a ha
      have := (hrel a.toNat (by omega) k1).2.2
      rw [Int.toNat_of_nonneg k2] at this
      exact this
     rw [hrows] at e2
     have e3 : runP (trimN n ns m (i + 1)).2 (fam0 n) = runP [⟨X.kind, X.k, X.args.map fun a => mv.getD a.toNat 0⟩] fam := by
      rw [e1]
      have := runP_append kept (fam0 n) ⟨X.kind, X.k, X.args.map fun a => mv.getD a.toNat 0⟩ (by rw [hFF]; exact hP0)
      rw [this, hFF]
     rw [runP_one] at e3
     simp only at e3
     generalize hp : nodePS X.kind X.k ((X.args.map fun a => mv.getD a.toNat 0).map fun a => fam.getD a.toNat []) = p at e2 e3
     by_cases hp0 : p.2 = 0
     ·rw [if_pos hp0] at e2 e3
      rw [e1, e2]
      rw [e1] at e3
      simp only at e3
      rw [e3]
      refine ⟨rfl, fun _ => ⟨by simp [hlen], fun j hj hjm => ?_⟩⟩
      simp only [List.length_append, List.length_cons, List.length_nil]
      by_cases hji : j = n + i
      ·subst hji
       have e4 : (mv.set (n + i) ((n : Int) + (kept.length : Int))).getD (n + i) 0 = (n : Int) + (kept.length : Int) := getD_set_at (by omega)
       rw [e4]
       refine ⟨by omega, by omega, ?_⟩
       rw [getD_app_last (by rw [hfl]; omega), argR, if_neg (by omega), show Int.toNat (((n + i : Nat) : Int) - (n : Int)) = i by omega, getD_set_at (by omega)]
      ·obtain ⟨k1, k2, k3⟩ := hrel j (by omega) hjm
       have e4 : (mv.set (n + i) ((n : Int) + (kept.length : Int))).getD j 0 = mv.getD j 0 := getD_set_far (Ne.symm hji)
       rw [e4]
       refine ⟨k1, by omega, ?_⟩
       rw [getD_app_left (by rw [hfl]; exact k2), <-k3]
       unfold argR
       by_cases hjn : (j : Int) < n
       ·rw [if_pos hjn, if_pos hjn]
       ·rw [if_neg hjn, if_neg hjn]
        exact getD_set_far (by omega)
     ·rw [if_neg hp0] at e2 e3
      rw [e2, e3]
      exact ⟨rfl, fun h => absurd h hp0⟩
    ·rw [if_neg hm] at e1 e2
     rw [e1, e2]
     refine ⟨ih1, fun _ => ⟨hlen, fun j hj hjm => ?_⟩⟩
     by_cases hji : j = n + i
     ·subst hji; exact absurd hjm hm
     ·exact hrel j (by omega) hjm
   ·rw [if_neg h0] at e2
    rw [e2]
    refine ⟨?_, fun h => absurd h h0⟩
    rw [e1]
    split
    ·rw [runP_bad _ _ _ (by rw [ih1]; exact h0), ih1]
    ·exact ih1
end
end Go.Pu
end
section
namespace Go.Proofs.YtocnofkagckhkaaGreatDoor
open Go.Sy Go.Pu
variable [Drw]
theorem plusP_does (a b : List Int) : DoesF Tryz.prog 133 [lV a, lV b] [] (.tup [lV (plusP a b).1, eV (plusP a b).2]) [] := by
 have := plus_does a b
 unfold plusP
 split
 ·rename_i h; simpa [h] using this
 ·rename_i h; simpa [h] using this
theorem prodP_does (a b : List Int) : DoesF Tryz.prog 83 [lV a, lV b] [] (.tup [lV (prodP a b).1, eV (prodP a b).2]) [] := by
 have := product_does a b
 unfold prodP
 split
 ·rename_i h; simpa [h] using this
 ·rename_i h; simpa [h] using this
theorem rplusP_does (a b : List Int) : DoesF Tryz.prog 119 [lV a, lV b] [] (.tup [lV (plusP a b).1, iV (plusP a b).2]) [] := by
 have := rplus_does a b
 rw [plus_ref]
 split
 ·rename_i h; simpa [h] using this
 ·rename_i h; simpa [h] using this
theorem rprodP_does (a b : List Int) : DoesF Tryz.prog 95 [lV a, lV b] [] (.tup [lV (prodP a b).1, iV (prodP a b).2]) [] := by
 have := rproduct_does a b
 rw [prod_ref]
 split
 ·rename_i h; simpa [h] using this
 ·rename_i h; simpa [h] using this
def J0 : Fns := (133, fLL (fun a b => .tup [lV (plusP a b).1, eV (plusP a b).2]) fun _ _ => True) ::
 (83, fLL (fun a b => .tup [lV (prodP a b).1, eV (prodP a b).2]) fun _ _ => True) ::
 (119, fLL (fun a b => .tup [lV (plusP a b).1, iV (plusP a b).2]) fun _ _ => True) ::
 (95, fLL (fun a b => .tup [lV (prodP a b).1, iV (prodP a b).2]) fun _ _ => True) ::
 T24
theorem J0_ok : FnsOk Tryz.prog J0 := .cons (.cons (.cons (.cons (T24_ok) Tryz.func95 rfl rfl (fLL_ok fun a b _ => rprodP_does a b)) Tryz.func119 rfl rfl (fLL_ok fun a b _ => rplusP_does a b)) Tryz.func83 rfl rfl (fLL_ok fun a b _ => prodP_does a b)) Tryz.func133 rfl rfl (fLL_ok fun a b _ => plusP_does a b)
theorem or_does (rows : List (List Int)) : DoesF Tryz.prog 112 [.c (intss rows)] [] (.tup [lV (foldP prodP rows [0]).1, eV (foldP prodP rows [0]).2]) [] := by
 refine DoesF.body _ Tryz.func112 rfl rfl rfl rfl ?_
 refine KW.go lay_ok J0_ok 100 rfl (by simp) ?_
 refine KW.frz 8 [8, 4] rfl rfl rfl ?_
 refine KW.len 9 rfl rfl fun hbig => ?_
 refine KW.goLpR lay_ok J0_ok 100 rfl (I := fun q : Nat × List Int => ⟨Tryz.f112.ntmps, [(4, .e (lV q.2)), (9, .e (.c (intss rows))), (10, sI rows.length), (11, sI q.1)], []⟩)
  (R := fun q => q.1 ≤ rows.length /\ foldP prodP (rows.drop q.1) q.2 = foldP prodP rows [0]) (m := fun q => rows.length - q.1) (0, [0]) [] rfl rfl ⟨rfl, rfl, rfl, rfl, trivial⟩ (by simp) ⟨Nat.zero_le _, rfl⟩ trivial ?_
 rintro ⟨q, acc⟩ ⟨g1, g2⟩
 simp only at g1 g2
 refine KW.goIf lay_ok J0_ok 100 rfl (by simp) rfl trivial (fun h => ?_) fun h => ?_
 ·have hq : q < rows.length := by simpa using h
  have hg : rows.getD (Int.toNat (q : Int)) [] = rows[q] := by simp [List.getD_eq_getElem?_getD, hq]
  rw [List.drop_eq_getElem_cons hq, foldP] at g2
  generalize rows[q] = r at hg g2
  refine KW.goIf lay_ok J0_ok 100 rfl (by simp [hq, ifcV_errV]) rfl trivial (fun h => ?_) fun h => ?_
  ·simp only [unI_ints, hg] at h
   have e : ¬ (prodP acc r).2 = 0 := by
    have e : (!isNilB (errV 47 (prodP acc r).2)) = true := h
    simpa using e
   rw [if_neg e] at g2
   refine KW.goOutR lay_ok J0_ok 100 rfl (by simp) ?_
   refine KW.go lay_ok J0_ok 100 rfl (by simp) ?_
   refine KW.conv 2 (ints []) rfl ⟨rfl, rfl⟩ ?_
   simp only [unI_ints, hg]
   rw [<-g2]
   exact KW.fin [] rfl rfl rfl trivial
  ·simp only [unI_ints, hg] at h
   have e : (prodP acc r).2 = 0 := by
    have e : (!isNilB (errV 47 (prodP acc r).2)) = false := h
    simpa using e
   rw [if_pos e] at g2
   refine KW.goToR lay_ok J0_ok 100 rfl (q + 1, (prodP acc r).1) [] rfl rfl ⟨?_, rfl, rfl, rfl, trivial⟩ (by simp [inK]; omega) ⟨⟨by simp only; omega, g2⟩, by simp only; omega⟩ trivial
   simp only [unI_ints, hg]; rfl
 ·have hq : q = rows.length := by simp at h; omega
  rw [hq, List.drop_length] at g2
  refine KW.goOut lay_ok J0_ok 100 rfl (by simp) ?_
  refine KW.goRet lay_ok J0_ok 100 rfl rfl ?_ (by simp) trivial
  rw [<-g2]; rfl
theorem and_does (rows : List (List Int)) : DoesF Tryz.prog 113 [.c (intss rows)] [] (.tup [lV (foldP plusP rows []).1, eV (foldP plusP rows []).2]) [] := by
 refine DoesF.body _ Tryz.func113 rfl rfl rfl rfl ?_
 refine KW.go lay_ok J0_ok 100 rfl (by simp) ?_
 refine KW.conv 4 (ints []) rfl ⟨rfl, rfl⟩ ?_
 refine KW.len 8 rfl rfl fun hbig => ?_
 refine KW.goLpR lay_ok J0_ok 100 rfl (I := fun q : Nat × List Int => ⟨Tryz.f113.ntmps, [(4, .e (lV q.2)), (8, .e (.c (intss rows))), (9, sI rows.length), (10, sI q.1)], []⟩)
  (R := fun q => q.1 ≤ rows.length /\ foldP plusP (rows.drop q.1) q.2 = foldP plusP rows []) (m := fun q => rows.length - q.1) (0, []) [] rfl rfl ⟨rfl, rfl, rfl, rfl, trivial⟩ (by simp) ⟨Nat.zero_le _, rfl⟩ trivial ?_
 rintro ⟨q, acc⟩ ⟨g1, g2⟩
 simp only at g1 g2
 refine KW.goIf lay_ok J0_ok 100 rfl (by simp) rfl trivial (fun h => ?_) fun h => ?_
 ·have hq : q < rows.length := by simpa using h
  have hg : rows.getD (Int.toNat (q : Int)) [] = rows[q] := by simp [List.getD_eq_getElem?_getD, hq]
  rw [List.drop_eq_getElem_cons hq, foldP] at g2
  generalize rows[q] = r at hg g2
  refine KW.goIf lay_ok J0_ok 100 rfl (by simp [hq, ifcV_errV]) rfl trivial (fun h => ?_) fun h => ?_
  ·simp only [unI_ints, hg] at h
   have e : ¬ (plusP acc r).2 = 0 := by
    have e : (!isNilB (errV 47 (plusP acc r).2)) = true := h
    simpa using e
   rw [if_neg e] at g2
   refine KW.goOutR lay_ok J0_ok 100 rfl (by simp) ?_
   refine KW.go lay_ok J0_ok 100 rfl (by simp) ?_
   refine KW.conv 2 (ints []) rfl ⟨rfl, rfl⟩ ?_
   simp only [unI_ints, hg]
   rw [<-g2]
   exact KW.fin [] rfl rfl rfl trivial
  ·simp only [unI_ints, hg] at h
   have e : (plusP acc r).2 = 0 := by
    have e : (!isNilB (errV 47 (plusP acc r).2)) = false := h
    simpa using e
   rw [if_pos e] at g2
   refine KW.goToR lay_ok J0_ok 100 rfl (q + 1, (plusP acc r).1) [] rfl rfl ⟨?_, rfl, rfl, rfl, trivial⟩ (by simp [inK]; omega) ⟨⟨by simp only; omega, g2⟩, by simp only; omega⟩ trivial
   simp only [unI_ints, hg]; rfl
 ·have hq : q = rows.length := by simp at h; omega
  rw [hq, List.drop_length] at g2
  refine KW.goOut lay_ok J0_ok 100 rfl (by simp) ?_
  refine KW.goRet lay_ok J0_ok 100 rfl rfl ?_ (by simp) trivial
  rw [<-g2]; rfl
end Go.Proofs.YtocnofkagckhkaaGreatDoor
namespace Go.Proofs.YtocnofkagckhkaaGreatDoor
open Go.Sy Go.Pu
variable [Drw]
abbrev lsC (l : List (List Int)) : CV := rows 1 (fun x _ => ints x) [] l
theorem vote_does (rws : List (List Int)) (k : Nat) (hk : k ≤ 1000) : DoesF Tryz.prog 114 [.c (intss rws), iV k] [] (.tup [lV (voteP rws k).1, eV (voteP rws k).2]) [] := by
 refine DoesF.body _ Tryz.func114 rfl rfl rfl rfl ?_
 refine KW.go lay_ok J0_ok 100 rfl (by simp [inK]; omega) ?_
 refine KW.frz 16 [16] rfl rfl rfl ?_
 refine KW.convR 14 (lsC (List.replicate (k + 1) [])) rfl (g := fun e q => ints ((List.replicate (k + 1) ([] : List Int)).getD e [])) ?_ (fun e q he hq => ?_) ?_
 ·show rows 1 (fun x _ => ints x) [] (List.replicate (k + 1) []) = _
  rw [rows, List.length_replicate, show Int.toNat ((k : Int) + 1) = k + 1 by omega]
 ·have : q = 0 := by omega
  subst this
  have e2 : (List.replicate (k + 1) ([] : List Int)).getD e [] = [] := by
   rw [List.getD_eq_getElem?_getD, List.getElem?_replicate]
   split <;> rfl
  rw [e2]
  exact ⟨rfl, rfl⟩
 refine KW.go lay_ok J0_ok 100 rfl (by simp) ?_
 refine KW.updG 14 [0] rfl rfl (fun q hq => ?_) ?_
 ·have : q = 0 := by omega
  subst this
  exact CVEq.refl _
 refine KW.len 18 rfl rfl fun hbig => ?_
 have ht0 : (List.replicate (k + 1) ([] : List Int)).set 0 [0] = tab0 k := rfl
 rw [show Int.toNat (0 : Int) = 0 from rfl, ht0]
 refine KW.goLpR lay_ok J0_ok 100 rfl (I := fun q : Nat × List (List Int) => ⟨Tryz.f114.ntmps, [(1, sI k), (6, .e (.r 6)), (18, .e (.c (intss rws))), (19, sI rws.length), (20, sI q.1)], [(6, .own 25 (lsC q.2))]⟩)
  (R := fun q => q.1 ≤ rws.length /\ q.2.length = k + 1 /\ voteR k (rws.drop q.1) q.2 = voteR k rws (tab0 k)) (m := fun q => rws.length - q.1) (0, tab0 k) [(6, 14)] rfl rfl ⟨rfl, rfl, rfl, rfl, rfl, trivial⟩ (by simp) ⟨Nat.zero_le _, by simp [tab0], rfl⟩ ⟨rfl, trivial⟩ ?_
 rintro ⟨q, tab⟩ ⟨g1, g2, g3⟩
 simp only at g1 g2 g3
 have ev : voteP rws k = if (voteR k rws (tab0 k)).2 = 0 then ((voteR k rws (tab0 k)).1.getD k [], 0) else ([], (voteR k rws (tab0 k)).2) := rfl
 refine KW.goIf lay_ok J0_ok 100 rfl (by simp) rfl trivial (fun h => ?_) fun h => ?_
 ·have hq : q < rws.length := by simpa using h
  have hg : rws.getD (Int.toNat (q : Int)) [] = rws[q] := by simp [List.getD_eq_getElem?_getD, hq]
  rw [List.drop_eq_getElem_cons hq, voteR] at g3
  generalize rws[q] = r at hg g3
  refine KW.goLpR lay_ok J0_ok 100 rfl (I := fun p : Nat × List (List Int) => ⟨Tryz.f114.ntmps, [(1, sI k), (6, .e (.r 6)), (8, .e (lV r)), (9, sI p.1), (18, .e (.c (intss rws))), (19, sI rws.length), (20, sI q)], [(6, .own 25 (lsC p.2))]⟩)
   (R := fun p => p.1 ≤ k /\ p.2.length = k + 1 /\ voteJ r p.1 p.2 = voteJ r k tab) (m := fun p => p.1) (k, tab) [(6, 6)] rfl rfl ⟨rfl, rfl, by rw [<-hg]; rfl, rfl, rfl, rfl, rfl, trivial⟩ (by simp [hq]) ⟨Nat.le_refl _, g2, rfl⟩ ⟨rfl, trivial⟩ ?_
  rintro ⟨j, tb⟩ ⟨r1, r2, r3⟩
  simp only at r1 r2 r3
  refine KW.goIf lay_ok J0_ok 100 rfl (by simp) rfl trivial (fun h => ?_) fun h => ?_
  ·obtain ⟨j, rfl⟩ : ∃ j', j = j' + 1 := ⟨j - 1, by simp at h; omega⟩
   have hj1 : Int.toNat (((j + 1 : Nat) : Int) - 1) = j := by omega
   rw [voteJ] at r3
   refine KW.goIf lay_ok J0_ok 100 rfl ?_ rfl trivial (fun h => ?_) fun h => ?_
   ·simp only [r2, isI_ints, ifcV_errV, inK, true_and, and_true]
    omega
   ·simp only [unI_ints, hj1] at h
    have e : ¬ (prodP (tb.getD j []) r).2 = 0 := by
     have e : (!isNilB (errV 47 (prodP (tb.getD j []) r).2)) = true := h
     simpa using e
    rw [if_neg e] at r3
    have e3 : (voteR k rws (tab0 k)) = ([], (prodP (tb.getD j []) r).2) := by
     rw [<-g3, <-r3, if_neg e]
    refine KW.goOutR lay_ok J0_ok 100 rfl (by simp) ?_
    refine KW.goOutR lay_ok J0_ok 100 rfl (by simp) ?_
    refine KW.go lay_ok J0_ok 100 rfl (by simp) ?_
    refine KW.conv 4 (ints []) rfl ⟨rfl, rfl⟩ ?_
    simp only [unI_ints, hj1]
    rw [ev, e3, if_neg e]
    exact KW.fin [] rfl rfl rfl trivial
   ·simp only [unI_ints, hj1] at h
    have e : (prodP (tb.getD j []) r).2 = 0 := by
     have e : (!isNilB (errV 47 (prodP (tb.getD j []) r).2)) = false := h
     simpa using e
    rw [if_pos e] at r3
    refine KW.goIf lay_ok J0_ok 100 rfl ?_ rfl trivial (fun h => ?_) fun h => ?_
    ·simp only [r2, isI_ints, ifcV_errV, inK, true_and, and_true]
     omega
    ·simp only [unI_ints, hj1, Int.toNat_natCast] at h
     have e2 : ¬ (plusP (tb.getD (j + 1) []) (prodP (tb.getD j []) r).1).2 = 0 := by
      have e : (!isNilB (errV 47 (plusP (tb.getD (j + 1) []) (prodP (tb.getD j []) r).1).2)) = true := h
      simpa using e
     rw [if_neg e2] at r3
     have e3 : (voteR k rws (tab0 k)) = ([], (plusP (tb.getD (j + 1) []) (prodP (tb.getD j []) r).1).2) := by
      rw [<-g3, <-r3, if_neg e2]
     refine KW.goOutR lay_ok J0_ok 100 rfl (by simp) ?_
     refine KW.goOutR lay_ok J0_ok 100 rfl (by simp) ?_
     refine KW.go lay_ok J0_ok 100 rfl (by simp) ?_
     refine KW.conv 4 (ints []) rfl ⟨rfl, rfl⟩ ?_
     simp only [unI_ints, hj1, Int.toNat_natCast]
     rw [ev, e3, if_neg e2]
     exact KW.fin [] rfl rfl rfl trivial
    ·simp only [unI_ints, hj1, Int.toNat_natCast] at h
     have e2 : (plusP (tb.getD (j + 1) []) (prodP (tb.getD j []) r).1).2 = 0 := by
      have e : (!isNilB (errV 47 (plusP (tb.getD (j + 1) []) (prodP (tb.getD j []) r).1).2)) = false := h
      simpa using e
     rw [if_pos e2] at r3
     refine KW.go lay_ok J0_ok 100 rfl (by simp [inK]; omega) (KW.updG 6 (plusP (tb.getD (j + 1) []) (prodP (tb.getD j []) r).1).1 rfl rfl (fun p hp => ?_) (KW.to (j, tb.set (j + 1) (plusP (tb.getD (j + 1) []) (prodP (tb.getD j []) r).1).1) ⟨⟨by simp only; omega, by simp only [List.length_set]; exact r2, r3⟩, by simp only; omega⟩ [(6, 6)] ⟨rfl, rfl, ⟨rfl, rfl, rfl, ?_, rfl, rfl, rfl, trivial⟩, ⟨?_, trivial⟩⟩))
     ·have : p = 0 := by omega
      subst this
      simp only [unI_ints, hj1, Int.toNat_natCast]
      exact CVEq.refl _
     ·rw [show (((j : Nat) : Int)) = ((j + 1 : Nat) : Int) - 1 by omega]; rfl
     ·rfl
  ·have hj : j = 0 := by simp at h; omega
   subst hj
   replace r3 : (tb, (0 : Int)) = voteJ r k tab := r3
   rw [<-r3, if_pos rfl] at g3
   refine KW.goOut lay_ok J0_ok 100 rfl (by simp) ?_
   exact KW.goToR lay_ok J0_ok 100 rfl (q + 1, tb) [(6, 6)] rfl rfl ⟨rfl, rfl, rfl, rfl, rfl, trivial⟩ (by simp [inK]; omega) ⟨⟨by simp only; omega, r2, g3⟩, by simp only; omega⟩ ⟨rfl, trivial⟩
 ·have hq : q = rws.length := by simp at h; omega
  rw [hq, List.drop_length] at g3
  replace g3 : (tab, (0 : Int)) = voteR k rws (tab0 k) := g3
  refine KW.goOut lay_ok J0_ok 100 rfl (by simp) ?_
  refine KW.goRet lay_ok J0_ok 100 rfl rfl ?_ (by simp; omega) trivial
  rw [ev, <-g3, if_pos rfl]
  simp only [SV.ren, renL, EV.ren, Int.toNat_natCast]
  rfl
end Go.Proofs.YtocnofkagckhkaaGreatDoor
namespace Go.Pu
open Go.Sy
variable [Drw]
def nodeK (x : NodeP) : List CV := [.lit (.int .i64 x.kind), .lit (.int .i64 x.k), ints x.args]
def fLsI (g : List (List Int) -> Int -> SV) (p : List (List Int) -> Int -> Prop) : List EV -> Option (SV × Prop)
 | [.c x, .c (.lit (.int .i64 k))] => some (g (unII x) k, isII x /\ p (unII x) k)
 | _ => none
def fNLs (g : NodeP -> List (List Int) -> SV) (p : NodeP -> List (List Int) -> Prop) : List EV -> Option (SV × Prop)
 | [.ag [.lit (.int .i64 k), .lit (.int .i64 kk), x], .c y] => some (g ⟨k, kk, unI x⟩ (unII y), isI x /\ isII y /\ p ⟨k, kk, unI x⟩ (unII y))
 | _ => none
section
variable {P : Program} {f : FuncId}
theorem fLsI_ok {g : List (List Int) -> Int -> SV} {p : List (List Int) -> Int -> Prop} (h : ∀ a k, p a k -> DoesF P f [.c (intss a), iV k] [] (g a k) []) : ∀ ys y φ, fLsI g p ys = some (y, φ) -> φ -> DoesF P f ys [] y [] := by
 intro ys y φ he hφ
 unfold fLsI at he
 split at he
 ·simp only [Option.some.injEq, Prod.mk.injEq] at he
  obtain ⟨rfl, rfl⟩ := he
  refine DoesF.conv ?_ (h _ _ hφ.2)
  exact ⟨hφ.1, CVEq.refl _, trivial⟩
 ·cases he
theorem fNLs_ok {g : NodeP -> List (List Int) -> SV} {p : NodeP -> List (List Int) -> Prop} (h : ∀ x l, p x l -> DoesF P f [.ag (nodeK x), .c (intss l)] [] (g x l) []) : ∀ ys y φ, fNLs g p ys = some (y, φ) -> φ -> DoesF P f ys [] y [] := by
 intro ys y φ he hφ
 unfold fNLs at he
 split at he
 ·rename_i k kk x l
  simp only [Option.some.injEq, Prod.mk.injEq] at he
  obtain ⟨rfl, rfl⟩ := he
  refine DoesF.conv ?_ (h _ _ hφ.2.2)
  refine ⟨⟨rfl, fun q y z hy hz => ?_⟩, hφ.2.1, trivial⟩
  match q, hy, hz with
  | 0, hy, hz => simp [nodeK] at hy hz; subst hy; subst hz; exact CVEq.refl _
  | 1, hy, hz => simp [nodeK] at hy hz; subst hy; subst hz; exact CVEq.refl _
  | 2, hy, hz => simp [nodeK] at hy hz; subst hy; subst hz; exact hφ.1
  | q + 3, hy, hz => simp at hy
 ·cases he
end
def voteIn (x : NodeP) (l : List (List Int)) : Prop := l.length ≤ 1000 /\ -1000 ≤ x.k /\ x.k ≤ 1000 /\ (x.kind = 0 ∨ x.kind = 2 ∨ x.kind = 3 ∨ (0 ≤ (l.length : Int) - x.k + 1 /\ (l.length : Int) - x.k + 1 ≤ 1000))
end Go.Pu
namespace Go.Proofs.YtocnofkagckhkaaGreatDoor
open Go.Sy Go.Pu
variable [Drw]
def J1 : Fns := (112, fLs (fun l => .tup [lV (foldP prodP l [0]).1, eV (foldP prodP l [0]).2]) fun _ => True) ::
 (113, fLs (fun l => .tup [lV (foldP plusP l []).1, eV (foldP plusP l []).2]) fun _ => True) ::
 (114, fLsI (fun l k => .tup [lV (voteP l k.toNat).1, eV (voteP l k.toNat).2]) fun l k => 0 ≤ k /\ k ≤ 1000) ::
 J0
theorem J1_ok : FnsOk Tryz.prog J1 := .cons (.cons (.cons (J0_ok) Tryz.func114 rfl rfl (fLsI_ok fun l k h => by have := vote_does l k.toNat (by omega); rwa [Int.toNat_of_nonneg h.1] at this)) Tryz.func113 rfl rfl (fLs_ok fun l _ => and_does l)) Tryz.func112 rfl rfl (fLs_ok fun l _ => or_does l)
theorem pnode_does (x : NodeP) (l : List (List Int)) (hv : voteIn x l) : DoesF Tryz.prog 79 [.ag (nodeK x), .c (intss l)] [] (.tup [lV (nodePS x.kind x.k l).1, eV (nodePS x.kind x.k l).2]) [] := by
 refine DoesF.body _ Tryz.func79 rfl rfl rfl rfl ?_
 obtain ⟨kind, kk, args⟩ := x
 obtain ⟨v1, v2, v3, v4⟩ := hv
 simp only at v2 v3 v4 ⊢
 refine KW.goIf lay_ok J1_ok 100 rfl (by simp) rfl trivial (fun h => ?_) fun h => ?_
 ·have k0 : kind = 0 := by simpa using h
  subst k0
  refine KW.goIf lay_ok J1_ok 100 rfl (by simp) rfl trivial (fun h => ?_) fun h => ?_
  ·have k1 : kk = 0 := by simpa using h
   subst k1
   refine KW.go lay_ok J1_ok 100 rfl (by simp) ?_
   refine KW.frz 13 [4] rfl rfl rfl ?_
   exact KW.fin [] rfl rfl rfl trivial
  ·have k1 : ¬ kk = 0 := by simpa using h
   refine KW.go lay_ok J1_ok 100 rfl (by simp) ?_
   refine KW.conv 4 (ints []) rfl ⟨rfl, rfl⟩ ?_
   have e : nodePS 0 kk l = ([], 0) := by simp [nodePS, k1]
   rw [e]
   exact KW.fin [] rfl rfl rfl trivial
 have k0 : ¬ kind = 0 := by simpa using h
 refine KW.goIf lay_ok J1_ok 100 rfl (by simp) rfl trivial (fun h => ?_) fun h => ?_
 ·have k3 : kind = 3 := by simpa using h
  subst k3
  refine KW.goRet lay_ok J1_ok 100 rfl rfl ?_ (by simp [ifcV_errV]) trivial
  simp only [unII_intss]; rfl
 have k3 : ¬ kind = 3 := by simpa using h
 refine KW.goIf lay_ok J1_ok 100 rfl (by simp) rfl trivial (fun h => ?_) fun h => ?_
 ·have k2 : kind = 2 := by simpa using h
  subst k2
  refine KW.goRet lay_ok J1_ok 100 rfl rfl ?_ (by simp [ifcV_errV]) trivial
  simp only [unII_intss]; rfl
 have k2 : ¬ kind = 2 := by simpa using h
 have e : nodePS kind kk l = voteP l ((l.length : Int) - kk + 1).toNat := by simp [nodePS, k0, k2, k3]
 refine KW.goRet lay_ok J1_ok 100 rfl rfl ?_ (by simp [ifcV_errV, inK]; omega) trivial
 simp only [unII_intss, e]
 rfl
theorem trim_len2 (f : FormP) (ok : FormOk f) : (trimF f).nodes.length ≤ 128 := Nat.le_trans (trimN_len f.vars.toNat f.nodes (belowF f) f.nodes.length).2 ok.len
theorem below_closed {f : FormP} (ok : FormOk f) : ∀ (i : Nat) (h : i < f.nodes.length), (belowF f).getD (f.vars.toNat + i) false = true -> ∀ a ∈ f.nodes[i].args, (belowF f).getD a.toNat false = true /\ 0 ≤ a /\ a.toNat < f.vars.toNat + i := fun i h hm a ha => by
 have h1 := (ok.nodes i h).args a ha
 exact ⟨marksF_closed ok (fun _ _ => true) h hm ha rfl, h1.1, ok.args_lt i h a ha⟩
theorem trim_nodes {f : FormP} (ok : FormOk f) (hc : cohF f = true) : ∀ i, i ≤ f.nodes.length -> (∀ j, j < f.vars.toNat + i -> (belowF f).getD j false = true -> 0 ≤ (trimN f.vars.toNat f.nodes (belowF f) i).1.getD j 0 /\ ((trimN f.vars.toNat f.nodes (belowF f) i).1.getD j 0).toNat < f.vars.toNat + (trimN f.vars.toNat f.nodes (belowF f) i).2.length) /\
  ∀ (q : Nat) (h : q < (trimN f.vars.toNat f.nodes (belowF f) i).2.length), (∀ a ∈ (trimN f.vars.toNat f.nodes (belowF f) i).2[q].args, 0 ≤ a /\ a.toNat < f.vars.toNat + q) /\ (trimN f.vars.toNat f.nodes (belowF f) i).2[q].args.length ≤ 16 /\
    -1000 ≤ (trimN f.vars.toNat f.nodes (belowF f) i).2[q].k /\ (trimN f.vars.toNat f.nodes (belowF f) i).2[q].k ≤ 1000 /\ ((trimN f.vars.toNat f.nodes (belowF f) i).2[q].kind = 0 ∨ (trimN f.vars.toNat f.nodes (belowF f) i).2[q].kind = 2 ∨ (trimN f.vars.toNat f.nodes (belowF f) i).2[q].kind = 3 ∨ (0 ≤ ((trimN f.vars.toNat f.nodes (belowF f) i).2[q].args.length : Int) - (trimN f.vars.toNat f.nodes (belowF f) i).2[q].k + 1 /\ ((trimN f.vars.toNat f.nodes (belowF f) i).2[q].args.length : Int) - (trimN f.vars.toNat f.nodes (belowF f) i).2[q].k + 1 ≤ 1000))
 | 0, _ => by
   refine ⟨fun j hj _ => ?_, fun q h => by simp [trimN] at h⟩
   have hj' : j < f.vars.toNat := by omega
   have e : (trimN f.vars.toNat f.nodes (belowF f) 0).1.getD j 0 = (j : Int) := by
    simp [trimN, List.getD_eq_getElem?_getD, show j < f.vars.toNat + f.nodes.length by omega, hj']
    try omega
   rw [e]
   exact ⟨by omega, by simp [trimN]; omega⟩
 | i + 1, hi => by
   obtain ⟨ih1, ih2⟩ := trim_nodes ok hc i (by omega)
   have hi' : i < f.nodes.length := by omega
   have htl := trimN_len f.vars.toNat f.nodes (belowF f) i
   have e1 := trimN_succ f.vars.toNat f.nodes (belowF f) i
   have hX : f.nodes.getD i node0 = f.nodes[i] := by simp [List.getD_eq_getElem?_getD, hi']
   by_cases hm : (belowF f).getD (f.vars.toNat + i) false = true
   ·rw [if_pos hm, hX] at e1
    have hcl := below_closed ok i hi' hm
    have okX := ok.nodes i hi'
    have hkd := coh_node hc hi' hm
    generalize f.nodes[i] = X at e1 hcl okX hkd
    generalize hTT : trimN f.vars.toNat f.nodes (belowF f) i = TT at *
    obtain ⟨mv, kept⟩ := TT
    simp only at ih1 ih2 e1 htl
    rw [e1]
    refine ⟨fun j hj hjm => ?_, fun q h => ?_⟩
    ·simp only [List.length_append, List.length_cons, List.length_nil]
     by_cases hji : j = f.vars.toNat + i
     ·subst hji
      rw [getD_set_at (by omega)]
      exact ⟨by omega, by omega⟩
     ·rw [getD_set_far (Ne.symm hji)]
      have := ih1 j (by omega) hjm
      exact ⟨this.1, by omega⟩
    ·simp only at h ⊢
     simp only [List.length_append, List.length_cons, List.length_nil] at h
     by_cases hq : q < kept.length
     ·rw [List.getElem_append_left hq]; exact ih2 q hq
     ·have hq2 : q = kept.length := by omega
      subst hq2
      simp only [List.getElem_concat_length]
      refine ⟨fun a ha => ?_, by simpa using argsB_le okX.cnt, ?_⟩
      ·obtain ⟨b, hb, rfl⟩ := List.mem_map.1 ha
       obtain ⟨c1, c2, c3⟩ := hcl b hb
       exact ih1 b.toNat (by omega) c1
      ·have hk := okX.k
       have h16 := argsB_le okX.cnt
       have hkk := okX.kind
       unfold kE at hk
       simp only [List.length_map]
       split at hk
       ·rename_i h0
        split at hk
        ·cases hk
        ·rename_i h1; omega
       ·split at hk
        ·split at hk
         ·cases hk
         ·omega
        ·split at hk
         ·cases hk
         ·omega
   ·rw [if_neg hm] at e1
    rw [e1]
    refine ⟨fun j hj hjm => ?_, ih2⟩
    by_cases hji : j = f.vars.toNat + i
    ·subst hji; exact absurd hjm hm
    ·exact ih1 j (by omega) hjm
end Go.Proofs.YtocnofkagckhkaaGreatDoor
namespace Go.Pu
open Go.Sy
variable [Drw]
theorem limL_len (l : LS) : (limL l).length ≤ 1024 := by
 unfold limL
 split
 ·simp
 ·omega
theorem plusP_len (a b : LS) : (plusP a b).1.length ≤ 1024 := by
 unfold plusP
 split
 ·exact limL_len _
 ·simp
theorem prodP_len (a b : LS) : (prodP a b).1.length ≤ 1024 := by
 unfold prodP
 split
 ·exact limL_len _
 ·simp
theorem foldP_len {op : LS -> LS -> LS × Int} (hop : ∀ a b, (op a b).1.length ≤ 1024) : ∀ (rs : List LS) {acc : LS}, acc.length ≤ 1024 -> (foldP op rs acc).1.length ≤ 1024
 | [], acc, h => h
 | r :: rs, acc, h => by
   rw [foldP]
   split
   ·exact foldP_len hop rs (hop _ _)
   ·simp
theorem voteJ_len (row : LS) : ∀ (j : Nat) {tab : List LS}, (∀ l ∈ tab, l.length ≤ 1024) -> ∀ l ∈ (voteJ row j tab).1, l.length ≤ 1024
 | 0, tab, h => h
 | j + 1, tab, h => by
   rw [voteJ]
   split
   ·split
    ·refine voteJ_len row j fun l hl => ?_
     rcases List.mem_or_eq_of_mem_set hl with hl | rfl
     ·exact h l hl
     ·exact plusP_len _ _
    ·simp
   ·simp
theorem voteR_len (k : Nat) : ∀ (rs : List LS) {tab : List LS}, (∀ l ∈ tab, l.length ≤ 1024) -> ∀ l ∈ (voteR k rs tab).1, l.length ≤ 1024
 | [], tab, h => h
 | r :: rs, tab, h => by
   rw [voteR]
   split
   ·exact voteR_len k rs (voteJ_len r k h)
   ·simp
theorem getD_len {tab : List LS} (h : ∀ l ∈ tab, l.length ≤ 1024) (k : Nat) : (tab.getD k []).length ≤ 1024 := by
 rw [List.getD_eq_getElem?_getD]
 cases e : tab[k]? with
 | none => simp
 | some x => exact h x (List.mem_of_getElem? e)
theorem nodePS_len (kind k : Int) (rows : List LS) : (nodePS kind k rows).1.length ≤ 1024 := by
 unfold nodePS
 split
 ·split <;> simp
 ·split
  ·exact foldP_len prodP_len rows (by simp)
  ·split
   ·exact foldP_len plusP_len rows (by simp)
   ·unfold voteP
    split
    ·refine getD_len (voteR_len _ _ fun l hl => ?_) _
     rcases List.mem_or_eq_of_mem_set hl with hl | rfl
     ·rw [List.eq_of_mem_replicate hl]; simp
     ·simp
    ·simp
theorem fam0_len (n : Nat) : ∀ l ∈ fam0 n, l.length ≤ 1024 := fun l hl => by
 obtain ⟨i, _, rfl⟩ := List.mem_map.1 hl
 simp
end Go.Pu
namespace Go.Proofs.YtocnofkagckhkaaGreatDoor
open Go.Sy Go.Pu
variable [Drw]
def J2 : Fns := (79, fNLs (fun x l => .tup [lV (nodePS x.kind x.k l).1, eV (nodePS x.kind x.k l).2]) fun x l => voteIn x l) ::
 (78, fF (fun f => .e (eV (pathE f))) FormIn) ::
 (70, fF (fun f => .tup [.ag (formC (trimF f)), .c (.lit .nilIface)]) fun f => FormIn f /\ formE f = 0) ::
 J1
theorem J2_ok : FnsOk Tryz.prog J2 := .cons (.cons (.cons (J1_ok) Tryz.func70 rfl rfl (fF_ok fun f h => trim_good f h.1 h.2)) Tryz.func78 rfl rfl (fF_ok fun f h => pcheck_does f h)) Tryz.func79 rfl rfl (fNLs_ok fun x l h => pnode_does x l h)
def pathsV (f : FormP) : LS × Int := if pathE f = 0 then (pathsL f, pathsE f) else ([], pathE f)
theorem paths_does (f : FormP) (hin : FormIn f) : DoesF Tryz.prog 40 [.ag (formC f)] [] (.tup [lV (pathsV f).1, eV (pathsV f).2]) [] := by
 refine DoesF.body _ Tryz.func40 rfl rfl rfl rfl ?_
 obtain ⟨vars, ns, top⟩ := f
 refine KW.goIf lay_ok J2_ok 100 rfl (by simp only [unN_nodesC, isN_nodesC, true_and, and_true, ifcV_errV]; exact hin) rfl trivial (fun h => ?_) fun h => ?_
 ·simp only [unN_nodesC] at h
  have h1 : ¬ pathE ⟨vars, ns, top⟩ = 0 := by
   have e : (!isNilB (errV 47 (pathE ⟨vars, ns, top⟩))) = true := h
   simpa using e
  refine KW.go lay_ok J2_ok 100 rfl (by simp) ?_
  refine KW.conv 2 (ints []) rfl ⟨rfl, rfl⟩ ?_
  rw [pathsV, if_neg h1]
  simp only [unN_nodesC]
  exact KW.fin [] rfl rfl rfl trivial
 ·simp only [unN_nodesC] at h
  have h1 : pathE ⟨vars, ns, top⟩ = 0 := by
   have e : (!isNilB (errV 47 (pathE ⟨vars, ns, top⟩))) = false := h
   simpa using e
  have h02 : formE ⟨vars, ns, top⟩ = 0 /\ cohF ⟨vars, ns, top⟩ = true := by
   unfold pathE at h1
   split at h1
   ·rename_i h0
    split at h1
    ·rename_i hc; exact ⟨h0, hc⟩
    ·cases h1
   ·rename_i h0; exact absurd h1 h0
  obtain ⟨h0, hc⟩ := h02
  have ok := formE_ok h0
  have hv := ok.vars
  simp only at hv
  obtain ⟨n, rfl⟩ := Int.eq_ofNat_of_zero_le hv.1
  have hn24 : n ≤ 24 := by omega
  rw [pathsV, if_pos h1]
  have hTl := trim_len2 ⟨n, ns, top⟩ ok
  have hTn := trim_nodes ok hc ns.length (Nat.le_refl _)
  have hTv : (trimF ⟨n, ns, top⟩).vars = (n : Int) := rfl
  have htop := ok.top
  have hTt := hTn.1 top.toNat (by simp only at htop ⊢; omega) (marksF_top ok _)
  have hTa := hTn.2
  have ePE : pathsE ⟨n, ns, top⟩ = (runP (trimF ⟨n, ns, top⟩).nodes (fam0 n)).2 := rfl
  have ePL : pathsL ⟨n, ns, top⟩ = if pathsE ⟨n, ns, top⟩ = 0 then (runP (trimF ⟨n, ns, top⟩).nodes (fam0 n)).1.getD (trimF ⟨n, ns, top⟩).top.toNat [] else [] := rfl
  have eT1 : (trimF ⟨n, ns, top⟩).nodes = (trimN (FormP.vars ⟨n, ns, top⟩).toNat (FormP.nodes ⟨n, ns, top⟩) (belowF ⟨n, ns, top⟩) ns.length).2 := rfl
  have eT2 : (trimF ⟨n, ns, top⟩).top = (trimN (FormP.vars ⟨n, ns, top⟩).toNat (FormP.nodes ⟨n, ns, top⟩) (belowF ⟨n, ns, top⟩) ns.length).1.getD top.toNat 0 := rfl
  rw [<-eT2, <-eT1] at hTt
  rw [<-eT1] at hTa
  simp only [Int.toNat_natCast] at hTt hTa
  refine KW.goIf lay_ok J2_ok 100 rfl (by simp only [unN_nodesC, isN_nodesC, true_and, and_true]; simp [hin, h0, ifcV]) rfl trivial (fun h => absurd h (by decide)) fun h => ?_
  simp only [unN_nodesC]
  generalize trimF ⟨n, ns, top⟩ = T at *
  obtain ⟨tv, tn, tt⟩ := T
  simp only at hTl hTv hTt hTa ePE ePL
  subst hTv
  refine KW.go lay_ok J2_ok 100 rfl (by simp [inK]; omega) ?_
  refine KW.convR 35 (lsC []) rfl (g := fun e q => ints (([] : List (List Int)).getD e [])) rfl (fun e q he hq => absurd he (Nat.not_lt_zero _)) ?_
  refine KW.goLpR lay_ok J2_ok 100 rfl (I := fun q : Nat => ⟨Tryz.f40.ntmps, [(5, .e (.r 5)), (7, .e (.r 7)), (37, sI n), (38, sI q)], [(5, .box 24 [iV n, .c (nodesC tn), iV tt] none), (7, .own 25 (lsC (fam0 q)))]⟩)
   (R := fun q => q ≤ n) (m := fun q => n - q) 0 [(5, 5), (7, 35)] rfl rfl ⟨rfl, rfl, rfl, rfl, trivial⟩ (by simp) (Nat.zero_le _) ⟨rfl, rfl, trivial⟩ ?_
  rintro q hq0
  refine KW.goIf lay_ok J2_ok 100 rfl (by simp) rfl trivial (fun h => ?_) fun h => ?_
  ·have hq : q < n := by simpa using h
   have hor := validS_iff.1 (one_valid (show q < 24 by omega))
   have hone : ishl 1 (q : Int) = Go.Pu.one q := rfl
   refine KW.go lay_ok J2_ok 100 rfl (by simp [inK, bitsI]; rw [hone]; omega) ?_
   refine KW.frz1 44 rfl rfl rfl ?_
   refine KW.go lay_ok J2_ok 100 rfl (by simp [inK, fam0]; omega) (KW.catG 46 [Go.Pu.one q] rfl (fun p hp => ?_) (KW.to (q + 1) ⟨by omega, by omega⟩ [(5, 5), (7, 46)] ⟨rfl, rfl, ⟨rfl, rfl, rfl, rfl, trivial⟩, ⟨rfl, ?_, trivial⟩⟩))
   ·have : p = 0 := by omega
    subst this
    exact CVEq.refl _
   ·have e : fam0 (q + 1) = fam0 q ++ [[Go.Pu.one q]] := by simp [fam0, List.range_succ]
    rw [e]; rfl
  have hq : q = n := by simp at h; omega
  subst hq
  refine KW.goOut lay_ok J2_ok 100 rfl (by simp) ?_
  refine KW.goLpR lay_ok J2_ok 100 rfl (I := fun p : Nat × List (List Int) => ⟨Tryz.f40.ntmps, [(5, .e (.r 5)), (7, .e (.r 7)), (49, .e (.c (nodesC tn))), (50, sI tn.length), (51, sI p.1)], [(5, .box 24 [iV q, .c (nodesC tn), iV tt] none), (7, .own 25 (lsC p.2))]⟩)
   (R := fun p => p.1 ≤ tn.length /\ p.2.length = q + p.1 /\ runP (tn.drop p.1) p.2 = runP tn (fam0 q) /\ ∀ l ∈ p.2, l.length ≤ 1024) (m := fun p => tn.length - p.1) (0, fam0 q) [(5, 5), (7, 7)] rfl rfl ⟨rfl, rfl, rfl, rfl, rfl, trivial⟩ (by simp) ⟨Nat.zero_le _, by simp [fam0], rfl, fam0_len q⟩ ⟨rfl, rfl, trivial⟩ ?_
  rintro ⟨i, fam⟩ ⟨g1, g2, g3, g4⟩
  simp only at g1 g2 g3 g4
  refine KW.goIf lay_ok J2_ok 100 rfl (by simp) rfl trivial (fun h => ?_) fun h => ?_
  ·have hi : i < tn.length := by simpa using h
   have hX : tn.getD (Int.toNat (i : Int)) node0 = tn[i] := by simp [List.getD_eq_getElem?_getD, hi]
   have hXa := hTa i hi
   rw [List.drop_eq_getElem_cons hi, runP] at g3
   generalize tn[i] = X at hX hXa g3
   obtain ⟨x1, x2, x3⟩ := hXa
   refine KW.go lay_ok J2_ok 100 rfl (by simp [hi]) ?_
   refine KW.nilO 11 202 25 (lsC []) rfl rfl rfl ?_
   refine KW.goLpR lay_ok J2_ok 100 rfl (I := fun j : Nat => ⟨Tryz.f40.ntmps, [(5, .e (.r 5)), (7, .e (.r 7)), (10, .e (.r 10)), (11, .e (.r 202)), (49, .e (.c (nodesC tn))), (50, sI tn.length), (51, sI i), (56, .e (lV X.args)), (57, sI X.args.length), (58, sI j)],
     [(5, .box 24 [iV q, .c (nodesC tn), iV tt] none), (7, .own 25 (lsC fam)), (10, .box 66 [iV X.kind, iV X.k, .c (ints X.args)] none), (202, .own 25 (lsC ((X.args.take j).map fun a => fam.getD a.toNat [])))]⟩)
    (R := fun j => j ≤ X.args.length) (m := fun j => X.args.length - j) 0 [(5, 5), (7, 7), (10, 10), (202, 202)] rfl rfl ⟨rfl, rfl, rfl, rfl, rfl, rfl, rfl, by rw [<-hX]; rfl, by rw [<-hX]; rfl, rfl, trivial⟩ (by simp) (Nat.zero_le _) ⟨rfl, rfl, by rw [<-hX]; rfl, rfl, trivial⟩ ?_
   rintro j hj0
   refine KW.goIf lay_ok J2_ok 100 rfl (by simp) rfl trivial (fun h => ?_) fun h => ?_
   ·have hj : j < X.args.length := by simpa using h
    have hg : X.args.getD (Int.toNat (j : Int)) 0 = X.args[j] := by simp [List.getD_eq_getElem?_getD, hj]
    have ha := x1 _ (List.getElem_mem hj)
    have htk : X.args.take (j + 1) = X.args.take j ++ [X.args[j]] := by rw [List.take_add_one, List.getElem?_eq_getElem hj]; rfl
    generalize X.args[j] = a at hg ha htk
    refine KW.go lay_ok J2_ok 100 rfl (by simp only [hg, g2]; simp [inK, List.length_take]; omega) (KW.catG 68 (fam.getD a.toNat []) rfl (fun p hp => ?_) (KW.to (j + 1) ⟨by omega, by omega⟩ [(5, 5), (7, 7), (10, 10), (202, 68)] ⟨rfl, rfl, ⟨rfl, rfl, rfl, rfl, rfl, rfl, rfl, rfl, rfl, rfl, trivial⟩, ⟨rfl, rfl, rfl, ?_, trivial⟩⟩))
    ·have : p = 0 := by omega
     subst this
     simp only [hg]
     exact CVEq.refl _
    ·rw [htk, List.map_append]; rfl
   have hj : j = X.args.length := by simp at h; omega
   subst hj
   refine KW.goOut lay_ok J2_ok 100 rfl (by simp) ?_
   refine KW.frz 202 [11] rfl rfl rfl ?_
   simp only [List.take_length]
   refine KW.conv 11 (intss (X.args.map fun a => fam.getD a.toNat [])) rfl (CVEq.refl _) ?_
   refine KW.goIf lay_ok J2_ok 100 rfl ?_ rfl trivial (fun h => ?_) fun h => ?_
   ·simp only [isI_ints, unI_ints, isII_intss, unII_intss, true_and, and_true, ifcV_errV]
    refine ⟨by simp; omega, x3.1, x3.2.1, ?_⟩
    simpa using x3.2.2
   ·simp only [unI_ints, unII_intss] at h
    have e : ¬ (nodePS X.kind X.k (X.args.map fun a => fam.getD a.toNat [])).2 = 0 := by
     have e : (!isNilB (errV 47 (nodePS X.kind X.k (X.args.map fun a => fam.getD a.toNat [])).2)) = true := h
     simpa using e
    rw [if_neg e] at g3
    have eE : pathsE ⟨q, ns, top⟩ = (nodePS X.kind X.k (X.args.map fun a => fam.getD a.toNat [])).2 := by rw [ePE, <-g3]
    have eL : pathsL ⟨q, ns, top⟩ = [] := by rw [ePL, eE, if_neg e]
    refine KW.goOutR lay_ok J2_ok 100 rfl (by simp) ?_
    refine KW.go lay_ok J2_ok 100 rfl (by simp) ?_
    refine KW.conv 2 (ints []) rfl ⟨rfl, rfl⟩ ?_
    simp only [unI_ints, unII_intss]
    rw [eE, eL]
    exact KW.fin [] rfl rfl rfl trivial
   ·simp only [unI_ints, unII_intss] at h
    have e : (nodePS X.kind X.k (X.args.map fun a => fam.getD a.toNat [])).2 = 0 := by
     have e : (!isNilB (errV 47 (nodePS X.kind X.k (X.args.map fun a => fam.getD a.toNat [])).2)) = false := h
     simpa using e
    rw [if_pos e] at g3
    refine KW.go lay_ok J2_ok 100 rfl (by simp [inK, g2]; omega) (KW.catG 82 (nodePS X.kind X.k (X.args.map fun a => fam.getD a.toNat [])).1 rfl (fun p hp => ?_) (KW.to (i + 1, fam ++ [(nodePS X.kind X.k (X.args.map fun a => fam.getD a.toNat [])).1]) ⟨⟨by simp only; omega, by simp only [List.length_append, List.length_cons, List.length_nil]; omega, g3, fun l hl => (List.mem_append.1 hl).elim (g4 l) fun hl => by rw [List.mem_singleton.1 hl]; exact nodePS_len _ _ _⟩, by simp only; omega⟩ [(5, 5), (7, 82)] ⟨rfl, rfl, ⟨rfl, rfl, rfl, rfl, rfl, trivial⟩, ⟨rfl, rfl, trivial⟩⟩))
    have : p = 0 := by omega
    subst this
    simp only [unI_ints, unII_intss]
    exact CVEq.refl _
  ·have hi : i = tn.length := by simp at h; omega
   rw [hi, List.drop_length] at g3
   replace g3 : (fam, (0 : Int)) = runP tn (fam0 q) := g3
   have eE : pathsE ⟨q, ns, top⟩ = 0 := by rw [ePE, <-g3]
   have eL : pathsL ⟨q, ns, top⟩ = fam.getD tt.toNat [] := by rw [ePL, if_pos eE, <-g3]
   rw [eE, eL]
   refine KW.goOut lay_ok J2_ok 100 rfl (by simp) ?_
   refine KW.go lay_ok J2_ok 100 rfl (by simp; omega) ?_
   refine KW.callO0 (clone_does (fam.getD tt.toNat []) (Nat.le_trans (getD_len g4 _) (by decide))) (enters Tryz.func80 rfl rfl) [] (.inl rfl) rfl rfl rfl rfl rfl trivial ⟨⟨_, _, rfl, trivial, .conv (CVEq.refl _)⟩, trivial⟩ rfl (.inl rfl) ?_
   refine KW.go lay_ok J2_ok 100 rfl (by simp) ?_
   refine KW.frz 89 [2] rfl rfl rfl ?_
   exact KW.fin [] rfl rfl rfl trivial
end Go.Proofs.YtocnofkagckhkaaGreatDoor
end
section
namespace Go.Pu
open Go.Sy
variable [Drw]
end Go.Pu
namespace Go.Proofs.YtocnofkagckhkaaGreatDoor
open Go.Sy Go.Pu
variable [Drw]
theorem ex_fam : fam0 3 = [[1], [2], [4]] := by decide +kernel
end Go.Proofs.YtocnofkagckhkaaGreatDoor
namespace Go.Proofs.YtocnofkagckhkaaGreatDoor
open Go.Sy Go.Pu
variable [Drw]
def J3 : Fns := (40, fF (fun f => .tup [lV (pathsV f).1, eV (pathsV f).2]) FormIn) ::
 J2
theorem J3_ok : FnsOk Tryz.prog J3 := .cons (J2_ok) Tryz.func40 rfl rfl (fF_ok fun f h => paths_does f h)
end Go.Proofs.YtocnofkagckhkaaGreatDoor
namespace Go.Proofs.YtocnofkagckhkaaGreatDoor
open Go.Sy Go.Pu
variable [Drw]
def J4 : Fns := (26, fF (fun f => sI (formE f)) FormIn) ::
 (62, fF (fun f => sB (cohF f)) fun f => FormIn f /\ formE f = 0) ::
 (91, fF (fun f => .e (blV (belowF f))) fun f => FormIn f /\ formE f = 0) ::
 (63, fFI (fun f s => sB (setB f s)) fun f s => 0 ≤ f.vars /\ f.vars ≤ 24) ::
 J3
theorem J4_ok : FnsOk Tryz.prog J4 := .cons (.cons (.cons (.cons (J3_ok) Tryz.func63 rfl rfl (fFI_ok fun f s h => set_does f s h)) Tryz.func91 rfl rfl (fF_ok fun f h => rbelow_does f h.1 h.2)) Tryz.func62 rfl rfl (fF_ok fun f h => rsyntax_does f h.1 h.2)) Tryz.func26 rfl rfl (fF_ok fun f h => rcheckF_does f h)
theorem rerror34_does (f : FormP) (hin : FormIn f) : DoesF Tryz.prog 31 [.ag (formC f)] [] (sI (pathE f)) [] := by
 refine DoesF.body _ Tryz.func31 rfl rfl rfl rfl ?_
 obtain ⟨vars, ns, top⟩ := f
 refine KW.goIf lay_ok J4_ok 100 rfl (by simp [hin]) rfl trivial (fun h => ?_) fun h => ?_
 ·simp only [unN_nodesC] at h
  have h1 : ¬ formE ⟨vars, ns, top⟩ = 0 := by
   have e : (formE ⟨vars, ns, top⟩ != 0) = true := h
   simpa using e
  refine KW.goRet lay_ok J4_ok 100 rfl rfl ?_ (by simp) trivial
  simp only [unN_nodesC, pathE, if_neg h1]; rfl
 ·simp only [unN_nodesC] at h
  have h1 : formE ⟨vars, ns, top⟩ = 0 := by
   have e : (formE ⟨vars, ns, top⟩ != 0) = false := h
   simpa using e
  refine KW.goIf lay_ok J4_ok 100 rfl (by simp [hin, h1]) rfl trivial (fun h => ?_) fun h => ?_
  ·simp only [unN_nodesC] at h
   have h2 : cohF ⟨vars, ns, top⟩ = false := by
    have e : (!cohF ⟨vars, ns, top⟩) = true := h
    simpa using e
   refine KW.goRet lay_ok J4_ok 100 rfl rfl ?_ (by simp) trivial
   simp only [pathE, if_pos h1, h2]; rfl
  ·simp only [unN_nodesC] at h
   have h2 : cohF ⟨vars, ns, top⟩ = true := by
    have e : (!cohF ⟨vars, ns, top⟩) = false := h
    simpa using e
   refine KW.goRet lay_ok J4_ok 100 rfl rfl ?_ (by simp) trivial
   simp only [pathE, if_pos h1, h2]; rfl
def J5 : Fns := (31, fF (fun f => sI (pathE f)) FormIn) ::
 J4
theorem J5_ok : FnsOk Tryz.prog J5 := .cons (J4_ok) Tryz.func31 rfl rfl (fF_ok fun f h => rerror34_does f h)
theorem rerrorOf34_does (f : FormP) (s : Int) (hin : FormIn f) : DoesF Tryz.prog 107 [.ag (formC f), iV s] [] (sI (pathSE f s)) [] := by
 refine DoesF.body _ Tryz.func107 rfl rfl rfl rfl ?_
 obtain ⟨vars, ns, top⟩ := f
 refine KW.goIf lay_ok J5_ok 100 rfl (by simp [hin]) rfl trivial (fun h => ?_) fun h => ?_
 ·simp only [unN_nodesC] at h
  have h1 : ¬ pathE ⟨vars, ns, top⟩ = 0 := by
   have e : (pathE ⟨vars, ns, top⟩ != 0) = true := h
   simpa using e
  refine KW.goRet lay_ok J5_ok 100 rfl rfl ?_ (by simp) trivial
  simp only [unN_nodesC, pathSE, if_neg h1]; rfl
 ·simp only [unN_nodesC] at h
  have h1 : pathE ⟨vars, ns, top⟩ = 0 := by
   have e : (pathE ⟨vars, ns, top⟩ != 0) = false := h
   simpa using e
  have h0 : formE ⟨vars, ns, top⟩ = 0 := by
   unfold pathE at h1
   split at h1
   ·assumption
   ·exact h1
  have hv := (formE_ok h0).vars
  simp only at hv
  have hsb : setB ⟨vars, ns, top⟩ s = decide (0 ≤ s /\ s < ishl 1 vars) := by
   simp [setB]
  refine KW.goIf lay_ok J5_ok 100 rfl (by simp [hv]) rfl trivial (fun h => ?_) fun h => ?_
  ·simp only [unN_nodesC] at h
   have h2 : ¬ (0 ≤ s /\ s < ishl 1 vars) := by
    have e : (!setB ⟨vars, ns, top⟩ s) = true := h
    rw [hsb] at e; simp at e; omega
   refine KW.goRet lay_ok J5_ok 100 rfl rfl ?_ (by simp) trivial
   simp only [pathSE, if_pos h1]; rw [if_neg h2]; rfl
  ·simp only [unN_nodesC] at h
   have h2 : 0 ≤ s /\ s < ishl 1 vars := by
    have e : (!setB ⟨vars, ns, top⟩ s) = false := h
    rw [hsb] at e; simpa using e
   refine KW.goRet lay_ok J5_ok 100 rfl rfl ?_ (by simp) trivial
   simp only [pathSE, if_pos h1]; rw [if_pos h2]; rfl
end Go.Proofs.YtocnofkagckhkaaGreatDoor
namespace Go.Pu
open Go.Sy
variable [Drw]
def brA : List NodeP -> Int
 | [] => 0
 | x :: r => x.args.length + brA r
def brV : List NodeP -> Int
 | [] => 0
 | x :: r => (if x.kind = 4 then (x.args.length : Int) * ((x.args.length : Int) - x.k + 1) else 0) + brV r
def broadF (f : FormP) : Bool := decide (80 < brA f.nodes) || decide (130 < brV f.nodes)
end Go.Pu
namespace Go.Proofs.YtocnofkagckhkaaGreatDoor
open Go.Sy Go.Pu
variable [Drw]
def J6 : Fns := J5
theorem J6_ok : FnsOk Tryz.prog J6 := J5_ok
def J7 : Fns := J6
theorem J7_ok : FnsOk Tryz.prog J7 := J6_ok
end Go.Proofs.YtocnofkagckhkaaGreatDoor
end
section
namespace Go.Proofs.YtocnofkagckhkaaGreatDoor
open Go.Sy Go.Pu
variable [Drw]
theorem rnode34_does (f : FormP) (x : NodeP) (bef : List (List Int)) (n : Nat) (hn : f.vars = n) (hn24 : n ≤ 24) (hk : x.kind = 0 /\ (x.k = 0 ∨ x.k = 1) ∨ x.kind = 2 ∨ x.kind = 3 ∨ x.kind = 4 /\ 1 ≤ x.k /\ x.k ≤ x.args.length) (hl : x.args.length ≤ 16) (ha : ∀ a ∈ x.args, 0 ≤ a /\ a < n + bef.length) (ht : bef.length ≤ 128) :
  DoesK Tryz.prog 92 [.ag (formC f), .ag (nodeK x), .r 2] [(2, .own 25 (lsC bef))] (.tup [lV (nodePS x.kind x.k (x.args.map (argR n bef))).1, iV (nodePS x.kind x.k (x.args.map (argR n bef))).2]) [(2, .own 25 (lsC bef))] [2] := by
 refine DoesK.body _ [(2, 2)] Tryz.func92 rfl rfl rfl rfl ⟨rfl, rfl, trivial⟩ rfl ?_
 obtain ⟨vars, ns, top⟩ := f
 obtain ⟨kind, kk, args⟩ := x
 simp only at hn hk hl ha ⊢
 subst hn
 refine KW.go lay_ok J7_ok 100 rfl (by simp) ?_
 refine KW.nilO 8 202 25 (lsC []) rfl rfl rfl ?_
 refine KW.goLpR lay_ok J7_ok 100 rfl (I := fun j : Nat => ⟨Tryz.f92.ntmps, [(2, .e (.r 2)), (3, .e (.r 3)), (4, .e (.r 4)), (8, .e (.r 202)), (30, .e (lV args)), (31, sI args.length), (32, sI j)],
   [(2, .own 25 (lsC bef)), (3, .box 24 [iV n, .c (nodesC ns), iV top] none), (4, .box 66 [iV kind, iV kk, .c (ints args)] none), (202, .own 25 (lsC ((args.take j).map (argR n bef))))]⟩)
  (R := fun j => j ≤ args.length) (m := fun j => args.length - j) 0 [(2, 2), (3, 3), (4, 4), (202, 202)] rfl rfl ⟨rfl, rfl, rfl, rfl, rfl, rfl, rfl, trivial⟩ (by simp) (Nat.zero_le _) ⟨rfl, rfl, rfl, rfl, trivial⟩ ?_
 rintro j hj0
 refine KW.goIf lay_ok J7_ok 100 rfl (by simp) rfl trivial (fun h => ?_) fun h => ?_
 ·have hj : j < args.length := by simpa using h
  have hg : args.getD (Int.toNat (j : Int)) 0 = args[j] := by simp [List.getD_eq_getElem?_getD, hj]
  have hz := ha _ (List.getElem_mem hj)
  have htk : args.take (j + 1) = args.take j ++ [args[j]] := by rw [List.take_add_one, List.getElem?_eq_getElem hj]; rfl
  generalize args[j] = a at hg hz htk
  refine KW.goIf lay_ok J7_ok 100 rfl (by simp [hj]) rfl trivial (fun h => ?_) fun h => ?_
  ·simp only [hg] at h
   have hlt : a < n := by simpa using h
   obtain ⟨b, rfl⟩ := Int.eq_ofNat_of_zero_le hz.1
   have hor := validS_iff.1 (one_valid (show b < 24 by omega))
   have hone : ishl 1 (b : Int) = Go.Pu.one b := rfl
   have e : argR n bef (b : Int) = [Go.Pu.one b] := by rw [argR, if_pos hlt]; rfl
   refine KW.go lay_ok J7_ok 100 rfl (by simp only [hg, hone]; simp [inK, bitsI]; omega) ?_
   refine KW.frz1 43 rfl rfl rfl ?_
   refine KW.go lay_ok J7_ok 100 rfl (by simp [inK, List.length_take]; omega) (KW.catG 45 [Go.Pu.one b] rfl (fun p hp => ?_) (KW.to (j + 1) ⟨by omega, by omega⟩ [(2, 2), (3, 3), (4, 4), (202, 45)] ⟨rfl, rfl, ⟨rfl, rfl, rfl, rfl, rfl, rfl, rfl, trivial⟩, ⟨rfl, rfl, rfl, ?_, trivial⟩⟩))
   ·have : p = 0 := by omega
    subst this
    simp only [hg, hone]
    exact CVEq.refl _
   ·rw [htk, List.map_append, show ([(b : Int)].map (argR n bef)) = [[Go.Pu.one b]] by simp [e]]; rfl
  ·simp only [hg] at h
   have hlt : ¬ a < n := by simpa using h
   have e : argR n bef a = bef.getD (a - n).toNat [] := by rw [argR, if_neg hlt]
   refine KW.go lay_ok J7_ok 100 rfl (by simp only [hg]; simp [inK, List.length_take]; omega) (KW.catG 55 (argR n bef a) rfl (fun p hp => ?_) (KW.to (j + 1) ⟨by omega, by omega⟩ [(2, 2), (3, 3), (4, 4), (202, 55)] ⟨rfl, rfl, ⟨rfl, rfl, rfl, rfl, rfl, rfl, rfl, trivial⟩, ⟨rfl, rfl, rfl, ?_, trivial⟩⟩))
   ·have : p = 0 := by omega
    subst this
    simp only [hg, e]
    exact CVEq.refl _
   ·rw [htk, List.map_append]; rfl
 have hj : j = args.length := by simp at h; omega
 subst hj
 refine KW.goOut lay_ok J7_ok 100 rfl (by simp) ?_
 refine KW.frz 202 [8] rfl rfl rfl ?_
 simp only [List.take_length]
 refine KW.conv 8 (intss (args.map (argR n bef))) rfl (CVEq.refl _) ?_
 have hrl : (args.map (argR n bef)).length = args.length := by simp
 generalize args.map (argR n bef) = rws at hrl
 refine KW.goIf lay_ok J7_ok 100 rfl (by simp) rfl trivial (fun h => ?_) fun h => ?_
 ·have k0 : kind = 0 := by simpa using h
  subst k0
  refine KW.goIf lay_ok J7_ok 100 rfl (by simp) rfl trivial (fun h => ?_) fun h => ?_
  ·have k1 : kk = 1 := by simpa using h
   refine KW.go lay_ok J7_ok 100 rfl (by simp) ?_
   refine KW.conv 6 (ints []) rfl ⟨rfl, rfl⟩ ?_
   have e : nodePS 0 kk rws = ([], 0) := by simp [nodePS, k1]
   rw [e]
   exact KW.finK [(2, 2)] rfl rfl rfl ⟨rfl, trivial⟩ ⟨rfl, trivial⟩
  ·have k1 : kk = 0 := by
    have : ¬ kk = 1 := by simpa using h
    omega
   have e : nodePS 0 kk rws = ([0], 0) := by simp [nodePS, k1]
   rw [e]
   refine KW.go lay_ok J7_ok 100 rfl (by simp) ?_
   refine KW.frz 64 [6] rfl rfl rfl ?_
   exact KW.finK [(2, 2)] rfl rfl rfl ⟨rfl, trivial⟩ ⟨rfl, trivial⟩
 have k0 : ¬ kind = 0 := by simpa using h
 refine KW.goIf lay_ok J7_ok 100 rfl (by simp) rfl trivial (fun h => ?_) fun h => ?_
 ·have k2 : kind = 2 := by simpa using h
  have e0 : nodePS kind kk rws = foldP plusP rws [] := by simp [nodePS, k2]
  rw [e0]
  refine KW.go lay_ok J7_ok 100 rfl (by simp) ?_
  refine KW.conv 11 (ints []) rfl ⟨rfl, rfl⟩ ?_
  refine KW.len 67 rfl rfl fun hbig => ?_
  refine KW.goLpR lay_ok J7_ok 100 rfl (I := fun q : Nat × List Int => ⟨Tryz.f92.ntmps, [(2, .e (.r 2)), (11, .e (lV q.2)), (67, .e (.c (intss rws))), (68, sI rws.length), (69, sI q.1)], [(2, .own 25 (lsC bef))]⟩)
   (R := fun q => q.1 ≤ rws.length /\ foldP plusP (rws.drop q.1) q.2 = foldP plusP rws []) (m := fun q => rws.length - q.1) (0, []) [(2, 2)] rfl rfl ⟨rfl, rfl, rfl, rfl, rfl, trivial⟩ (by simp) ⟨Nat.zero_le _, rfl⟩ ⟨rfl, trivial⟩ ?_
  rintro ⟨q, acc⟩ ⟨g1, g2⟩
  simp only at g1 g2
  refine KW.goIf lay_ok J7_ok 100 rfl (by simp) rfl trivial (fun h => ?_) fun h => ?_
  ·have hq : q < rws.length := by simpa using h
   have hg : rws.getD (Int.toNat (q : Int)) [] = rws[q] := by simp [List.getD_eq_getElem?_getD, hq]
   rw [List.drop_eq_getElem_cons hq, foldP] at g2
   generalize rws[q] = r at hg g2
   refine KW.goIf lay_ok J7_ok 100 rfl (by simp [hq]) rfl trivial (fun h => ?_) fun h => ?_
   ·simp only [unI_ints, hg] at h
    have e : ¬ (plusP acc r).2 = 0 := by
     have e : ((plusP acc r).2 != 0) = true := h
     simpa using e
    rw [if_neg e] at g2
    refine KW.goOutR lay_ok J7_ok 100 rfl (by simp) ?_
    refine KW.go lay_ok J7_ok 100 rfl (by simp) ?_
    refine KW.conv 6 (ints []) rfl ⟨rfl, rfl⟩ ?_
    simp only [unI_ints, hg]
    rw [<-g2]
    exact KW.finK [(2, 2)] rfl rfl rfl ⟨rfl, trivial⟩ ⟨rfl, trivial⟩
   ·simp only [unI_ints, hg] at h
    have e : (plusP acc r).2 = 0 := by
     have e : ((plusP acc r).2 != 0) = false := h
     simpa using e
    rw [if_pos e] at g2
    refine KW.goToR lay_ok J7_ok 100 rfl (q + 1, (plusP acc r).1) [(2, 2)] rfl rfl ⟨rfl, ?_, rfl, rfl, rfl, trivial⟩ (by simp [inK]; omega) ⟨⟨by simp only; omega, g2⟩, by simp only; omega⟩ ⟨rfl, trivial⟩
    simp only [unI_ints, hg]; rfl
  ·have hq : q = rws.length := by simp at h; omega
   rw [hq, List.drop_length] at g2
   refine KW.goOut lay_ok J7_ok 100 rfl (by simp) ?_
   refine KW.goRetK lay_ok J7_ok 100 rfl [(2, 2)] rfl rfl ?_ (by simp) (by exact ⟨rfl, trivial⟩) (by exact ⟨rfl, trivial⟩)
   rw [<-g2]; rfl
 have k2 : ¬ kind = 2 := by simpa using h
 refine KW.goIf lay_ok J7_ok 100 rfl (by simp) rfl trivial (fun h => ?_) fun h => ?_
 ·have k4 : kind = 4 := by simpa using h
  have e0 : nodePS kind kk rws = voteP rws ((rws.length : Int) - kk + 1).toNat := by simp [nodePS, k4]
  obtain ⟨k, hkk⟩ := Int.eq_ofNat_of_zero_le (show 0 ≤ (rws.length : Int) - kk + 1 by omega)
  rw [e0, hkk, Int.toNat_natCast]
  have hk : k ≤ 1000 := by omega
  refine KW.goIf lay_ok J7_ok 100 rfl (by simp [inK]; omega) rfl trivial (fun h => ?_) fun h => ?_
  ·exact absurd k4 (by have : kind = 3 := by simpa using h
                       omega)
  refine KW.go lay_ok J7_ok 100 rfl (by simp [inK]; omega) ?_
  simp only [hkk]
  refine KW.frz 122 [122] rfl rfl rfl ?_
  refine KW.convR 120 (lsC (List.replicate (k + 1) [])) rfl (g := fun e q => ints ((List.replicate (k + 1) ([] : List Int)).getD e [])) ?_ (fun e q he hq => ?_) ?_
  ·show rows 1 (fun x _ => ints x) [] (List.replicate (k + 1) []) = _
   rw [rows, List.length_replicate, show Int.toNat ((k : Int) + 1) = k + 1 by omega]
  ·have : q = 0 := by omega
   subst this
   have e2 : (List.replicate (k + 1) ([] : List Int)).getD e [] = [] := by
    rw [List.getD_eq_getElem?_getD, List.getElem?_replicate]
    split <;> rfl
   rw [e2]
   exact ⟨rfl, rfl⟩
  refine KW.go lay_ok J7_ok 100 rfl (by simp) ?_
  refine KW.updG 120 [0] rfl rfl (fun q hq => ?_) ?_
  ·have : q = 0 := by omega
   subst this
   exact CVEq.refl _
  refine KW.len 124 rfl rfl fun hbig => ?_
  have ht0 : (List.replicate (k + 1) ([] : List Int)).set 0 [0] = tab0 k := rfl
  rw [show Int.toNat (0 : Int) = 0 from rfl, ht0]
  refine KW.goLpR lay_ok J7_ok 100 rfl (I := fun q : Nat × List (List Int) => ⟨Tryz.f92.ntmps, [(2, .e (.r 2)), (16, sI k), (22, .e (.r 22)), (124, .e (.c (intss rws))), (125, sI rws.length), (126, sI q.1)], [(2, .own 25 (lsC bef)), (22, .own 25 (lsC q.2))]⟩)
   (R := fun q => q.1 ≤ rws.length /\ q.2.length = k + 1 /\ voteR k (rws.drop q.1) q.2 = voteR k rws (tab0 k)) (m := fun q => rws.length - q.1) (0, tab0 k) [(2, 2), (22, 120)] rfl rfl ⟨rfl, rfl, rfl, rfl, rfl, rfl, trivial⟩ (by simp) ⟨Nat.zero_le _, by simp [tab0], rfl⟩ ⟨rfl, rfl, trivial⟩ ?_
  rintro ⟨q, tab⟩ ⟨g1, g2, g3⟩
  simp only at g1 g2 g3
  have ev : voteP rws k = if (voteR k rws (tab0 k)).2 = 0 then ((voteR k rws (tab0 k)).1.getD k [], 0) else ([], (voteR k rws (tab0 k)).2) := rfl
  refine KW.goIf lay_ok J7_ok 100 rfl (by simp) rfl trivial (fun h => ?_) fun h => ?_
  ·have hq : q < rws.length := by simpa using h
   have hg : rws.getD (Int.toNat (q : Int)) [] = rws[q] := by simp [List.getD_eq_getElem?_getD, hq]
   rw [List.drop_eq_getElem_cons hq, voteR] at g3
   generalize rws[q] = r at hg g3
   refine KW.goLpR lay_ok J7_ok 100 rfl (I := fun p : Nat × List (List Int) => ⟨Tryz.f92.ntmps, [(2, .e (.r 2)), (16, sI k), (22, .e (.r 22)), (24, .e (lV r)), (25, sI p.1), (124, .e (.c (intss rws))), (125, sI rws.length), (126, sI q)], [(2, .own 25 (lsC bef)), (22, .own 25 (lsC p.2))]⟩)
    (R := fun p => p.1 ≤ k /\ p.2.length = k + 1 /\ voteJ r p.1 p.2 = voteJ r k tab) (m := fun p => p.1) (k, tab) [(2, 2), (22, 22)] rfl rfl ⟨rfl, rfl, rfl, by rw [<-hg]; rfl, rfl, rfl, rfl, rfl, trivial⟩ (by simp [hq]) ⟨Nat.le_refl _, g2, rfl⟩ ⟨rfl, rfl, trivial⟩ ?_
   rintro ⟨j, tb⟩ ⟨r1, r2, r3⟩
   simp only at r1 r2 r3
   refine KW.goIf lay_ok J7_ok 100 rfl (by simp) rfl trivial (fun h => ?_) fun h => ?_
   ·obtain ⟨j, rfl⟩ : ∃ j', j = j' + 1 := ⟨j - 1, by simp at h; omega⟩
    have hj1 : Int.toNat (((j + 1 : Nat) : Int) - 1) = j := by omega
    rw [voteJ] at r3
    refine KW.goIf lay_ok J7_ok 100 rfl ?_ rfl trivial (fun h => ?_) fun h => ?_
    ·simp only [r2, isI_ints, ifcV_errV, inK, true_and, and_true]
     omega
    ·simp only [unI_ints, hj1] at h
     have e : ¬ (prodP (tb.getD j []) r).2 = 0 := by
      have e : ((prodP (tb.getD j []) r).2 != 0) = true := h
      simpa using e
     rw [if_neg e] at r3
     have e3 : (voteR k rws (tab0 k)) = ([], (prodP (tb.getD j []) r).2) := by
      rw [<-g3, <-r3, if_neg e]
     refine KW.goOutR lay_ok J7_ok 100 rfl (by simp) ?_
     refine KW.goOutR lay_ok J7_ok 100 rfl (by simp) ?_
     refine KW.go lay_ok J7_ok 100 rfl (by simp) ?_
     refine KW.conv 6 (ints []) rfl ⟨rfl, rfl⟩ ?_
     simp only [unI_ints, hj1]
     rw [ev, e3, if_neg e]
     exact KW.finK [(2, 2)] rfl rfl rfl ⟨rfl, trivial⟩ ⟨rfl, trivial⟩
    ·simp only [unI_ints, hj1] at h
     have e : (prodP (tb.getD j []) r).2 = 0 := by
      have e : ((prodP (tb.getD j []) r).2 != 0) = false := h
      simpa using e
     rw [if_pos e] at r3
     refine KW.goIf lay_ok J7_ok 100 rfl ?_ rfl trivial (fun h => ?_) fun h => ?_
     ·simp only [r2, isI_ints, ifcV_errV, inK, true_and, and_true]
      omega
     ·simp only [unI_ints, hj1, Int.toNat_natCast] at h
      have e2 : ¬ (plusP (tb.getD (j + 1) []) (prodP (tb.getD j []) r).1).2 = 0 := by
       have e : ((plusP (tb.getD (j + 1) []) (prodP (tb.getD j []) r).1).2 != 0) = true := h
       simpa using e
      rw [if_neg e2] at r3
      have e3 : (voteR k rws (tab0 k)) = ([], (plusP (tb.getD (j + 1) []) (prodP (tb.getD j []) r).1).2) := by
       rw [<-g3, <-r3, if_neg e2]
      refine KW.goOutR lay_ok J7_ok 100 rfl (by simp) ?_
      refine KW.goOutR lay_ok J7_ok 100 rfl (by simp) ?_
      refine KW.go lay_ok J7_ok 100 rfl (by simp) ?_
      refine KW.conv 6 (ints []) rfl ⟨rfl, rfl⟩ ?_
      simp only [unI_ints, hj1, Int.toNat_natCast]
      rw [ev, e3, if_neg e2]
      exact KW.finK [(2, 2)] rfl rfl rfl ⟨rfl, trivial⟩ ⟨rfl, trivial⟩
     ·simp only [unI_ints, hj1, Int.toNat_natCast] at h
      have e2 : (plusP (tb.getD (j + 1) []) (prodP (tb.getD j []) r).1).2 = 0 := by
       have e : ((plusP (tb.getD (j + 1) []) (prodP (tb.getD j []) r).1).2 != 0) = false := h
       simpa using e
      rw [if_pos e2] at r3
      refine KW.go lay_ok J7_ok 100 rfl (by simp [inK]; omega) (KW.updG 22 (plusP (tb.getD (j + 1) []) (prodP (tb.getD j []) r).1).1 rfl rfl (fun p hp => ?_) (KW.to (j, tb.set (j + 1) (plusP (tb.getD (j + 1) []) (prodP (tb.getD j []) r).1).1) ⟨⟨by simp only; omega, by simp only [List.length_set]; exact r2, r3⟩, by simp only; omega⟩ [(2, 2), (22, 22)] ⟨rfl, rfl, ⟨rfl, rfl, rfl, rfl, ?_, rfl, rfl, rfl, trivial⟩, ⟨rfl, ?_, trivial⟩⟩))
      ·have : p = 0 := by omega
       subst this
       simp only [unI_ints, hj1, Int.toNat_natCast]
       exact CVEq.refl _
      ·rw [show (((j : Nat) : Int)) = ((j + 1 : Nat) : Int) - 1 by omega]; rfl
      ·rfl
   ·have hj : j = 0 := by simp at h; omega
    subst hj
    replace r3 : (tb, (0 : Int)) = voteJ r k tab := r3
    rw [<-r3, if_pos rfl] at g3
    refine KW.goOut lay_ok J7_ok 100 rfl (by simp) ?_
    exact KW.goToR lay_ok J7_ok 100 rfl (q + 1, tb) [(2, 2), (22, 22)] rfl rfl ⟨rfl, rfl, rfl, rfl, rfl, rfl, trivial⟩ (by simp [inK]; omega) ⟨⟨by simp only; omega, r2, g3⟩, by simp only; omega⟩ ⟨rfl, rfl, trivial⟩
  ·have hq : q = rws.length := by simp at h; omega
   rw [hq, List.drop_length] at g3
   replace g3 : (tab, (0 : Int)) = voteR k rws (tab0 k) := g3
   refine KW.goOut lay_ok J7_ok 100 rfl (by simp) ?_
   refine KW.goRetK lay_ok J7_ok 100 rfl [(2, 2)] rfl rfl ?_ (by simp; omega) (by exact ⟨rfl, trivial⟩) (by exact ⟨rfl, trivial⟩)
   rw [ev, <-g3, if_pos rfl]
   simp only [SV.ren, renL, EV.ren, Int.toNat_natCast]
 ·have k4 : ¬ kind = 4 := by simpa using h
  have k3 : kind = 3 := by omega
  refine KW.goIf lay_ok J7_ok 100 rfl (by simp) rfl trivial (fun h => ?_) fun h => ?_
  ·have e0 : nodePS kind kk rws = foldP prodP rws [0] := by simp [nodePS, k3]
   rw [e0]
   refine KW.go lay_ok J7_ok 100 rfl (by simp) ?_
   refine KW.frz 99 [99, 17] rfl rfl rfl ?_
   refine KW.len 100 rfl rfl fun hbig => ?_
   refine KW.goLpR lay_ok J7_ok 100 rfl (I := fun q : Nat × List Int => ⟨Tryz.f92.ntmps, [(2, .e (.r 2)), (17, .e (lV q.2)), (100, .e (.c (intss rws))), (101, sI rws.length), (102, sI q.1)], [(2, .own 25 (lsC bef))]⟩)
    (R := fun q => q.1 ≤ rws.length /\ foldP prodP (rws.drop q.1) q.2 = foldP prodP rws [0]) (m := fun q => rws.length - q.1) (0, [0]) [(2, 2)] rfl rfl ⟨rfl, rfl, rfl, rfl, rfl, trivial⟩ (by simp) ⟨Nat.zero_le _, rfl⟩ ⟨rfl, trivial⟩ ?_
   rintro ⟨q, acc⟩ ⟨g1, g2⟩
   simp only at g1 g2
   refine KW.goIf lay_ok J7_ok 100 rfl (by simp) rfl trivial (fun h => ?_) fun h => ?_
   ·have hq : q < rws.length := by simpa using h
    have hg : rws.getD (Int.toNat (q : Int)) [] = rws[q] := by simp [List.getD_eq_getElem?_getD, hq]
    rw [List.drop_eq_getElem_cons hq, foldP] at g2
    generalize rws[q] = r at hg g2
    refine KW.goIf lay_ok J7_ok 100 rfl (by simp [hq]) rfl trivial (fun h => ?_) fun h => ?_
    ·simp only [unI_ints, hg] at h
     have e : ¬ (prodP acc r).2 = 0 := by
      have e : ((prodP acc r).2 != 0) = true := h
      simpa using e
     rw [if_neg e] at g2
     refine KW.goOutR lay_ok J7_ok 100 rfl (by simp) ?_
     refine KW.go lay_ok J7_ok 100 rfl (by simp) ?_
     refine KW.conv 6 (ints []) rfl ⟨rfl, rfl⟩ ?_
     simp only [unI_ints, hg]
     rw [<-g2]
     exact KW.finK [(2, 2)] rfl rfl rfl ⟨rfl, trivial⟩ ⟨rfl, trivial⟩
    ·simp only [unI_ints, hg] at h
     have e : (prodP acc r).2 = 0 := by
      have e : ((prodP acc r).2 != 0) = false := h
      simpa using e
     rw [if_pos e] at g2
     refine KW.goToR lay_ok J7_ok 100 rfl (q + 1, (prodP acc r).1) [(2, 2)] rfl rfl ⟨rfl, ?_, rfl, rfl, rfl, trivial⟩ (by simp [inK]; omega) ⟨⟨by simp only; omega, g2⟩, by simp only; omega⟩ ⟨rfl, trivial⟩
     simp only [unI_ints, hg]; rfl
   ·have hq : q = rws.length := by simp at h; omega
    rw [hq, List.drop_length] at g2
    refine KW.goOut lay_ok J7_ok 100 rfl (by simp) ?_
    refine KW.goRetK lay_ok J7_ok 100 rfl [(2, 2)] rfl rfl ?_ (by simp) (by exact ⟨rfl, trivial⟩) (by exact ⟨rfl, trivial⟩)
    rw [<-g2]; rfl
  ·exact absurd k3 (by simpa using h)
end Go.Proofs.YtocnofkagckhkaaGreatDoor
end
section
namespace Go.Pu
open Go.Sy
variable [Drw]
theorem markN_low (n : Nat) (ns : List NodeP) (c : Nat -> Int -> Bool) : ∀ (i : Nat) {m : List Bool}, (∀ q, q < i -> m.getD (n + q) false = false) -> markN n ns c i m = m
 | 0, m, _ => rfl
 | i + 1, m, h => by
   rw [markN, if_neg (by rw [h i (by omega)]; simp), markN_low n ns c i fun q hq => h q (by omega)]
theorem below_low {f : FormP} (ok : FormOk f) (ht : f.top < f.vars) : ∀ q, (belowF f).getD (f.vars.toNat + q) false = false := fun q => by
 have h1 := ok.top
 have h2 := ok.vars
 have h0 : ∀ q, (mark0 f).getD (f.vars.toNat + q) false = false := fun q => by
  rw [mark0, List.getD_eq_getElem?_getD, List.getElem?_set_ne (by omega), List.getElem?_replicate]
  split <;> rfl
 rw [belowF, marksF, markN_low _ _ _ _ fun q _ => h0 q]
 exact h0 q
theorem runR_low {n : Nat} {ns : List NodeP} {m : List Bool} (h : ∀ q, m.getD (n + q) false = false) : ∀ i, runR n ns m i = (List.replicate ns.length [], 0)
 | 0 => rfl
 | i + 1 => by rw [runR_succ, runR_low h i, if_pos rfl, if_neg (by rw [h i]; simp)]
theorem runR_bad {n : Nat} {ns : List NodeP} {m : List Bool} {i : Nat} (h : ¬ (runR n ns m i).2 = 0) : ∀ j, runR n ns m (i + j) = runR n ns m i
 | 0 => rfl
 | j + 1 => by rw [<-Nat.add_assoc, runR_succ, runR_bad h j, if_neg h]
end Go.Pu
namespace Go.Proofs.YtocnofkagckhkaaGreatDoor
open Go.Sy Go.Pu
variable [Drw]
theorem paths_run {f : FormP} (ok : FormOk f) (hc : cohF f = true) (h0 : formE f = 0) : pathsE f = (runR f.vars.toNat f.nodes (belowF f) f.nodes.length).2 /\
  ((runR f.vars.toNat f.nodes (belowF f) f.nodes.length).2 = 0 -> pathsL f = argR f.vars.toNat (runR f.vars.toNat f.nodes (belowF f) f.nodes.length).1 f.top) := by
 have htop := ok.top
 have hv := ok.vars
 obtain ⟨r1, r2⟩ := run_eq (below_closed ok) f.nodes.length (Nat.le_refl _)
 refine ⟨r1, fun hz => ?_⟩
 obtain ⟨_, r3⟩ := r2 hz
 obtain ⟨k1, k2, k3⟩ := r3 f.top.toNat (by omega) (marksF_top ok _)
 rw [Int.toNat_of_nonneg htop.1] at k3
 rw [k3, pathsL, if_pos (by rw [<-hz, <-r1]; rfl)]
 rfl
theorem rpaths34_does (f : FormP) (hin : FormIn f) : DoesF Tryz.prog 50 [.ag (formC f)] [] (.tup [lV (pathsV f).1, iV (pathsV f).2]) [] := by
 refine DoesF.body _ Tryz.func50 rfl rfl rfl rfl ?_
 obtain ⟨vars, ns, top⟩ := f
 refine KW.goIf lay_ok J7_ok 100 rfl (by simp [hin]) rfl trivial (fun h => ?_) fun h => ?_
 ·simp only [unN_nodesC] at h
  have h1 : ¬ pathE ⟨vars, ns, top⟩ = 0 := by
   have e : (pathE ⟨vars, ns, top⟩ != 0) = true := h
   simpa using e
  refine KW.go lay_ok J7_ok 100 rfl (by simp) ?_
  refine KW.conv 2 (ints []) rfl ⟨rfl, rfl⟩ ?_
  rw [pathsV, if_neg h1]
  simp only [unN_nodesC]
  exact KW.fin [] rfl rfl rfl trivial
 simp only [unN_nodesC] at h
 have h1 : pathE ⟨vars, ns, top⟩ = 0 := by
  have e : (pathE ⟨vars, ns, top⟩ != 0) = false := h
  simpa using e
 have h02 : formE ⟨vars, ns, top⟩ = 0 /\ cohF ⟨vars, ns, top⟩ = true := by
  unfold pathE at h1
  split at h1
  ·rename_i h0
   split at h1
   ·rename_i hc; exact ⟨h0, hc⟩
   ·cases h1
  ·rename_i h0; exact absurd h1 h0
 obtain ⟨h0, hc⟩ := h02
 have ok := formE_ok h0
 have hv := ok.vars
 have htop := ok.top
 have hlen := ok.len
 obtain ⟨p1, p2⟩ := paths_run ok hc h0
 have hcoh := fun (q : Nat) (hq : q < ns.length) hm => coh_node (f := ⟨vars, ns, top⟩) hc (q := q) hq hm
 have hmk := below_closed ok
 have hnk := ok.nodes
 have hlow := below_low ok
 have hbl := belowF_length ⟨vars, ns, top⟩
 simp only at hv htop hlen p1 p2 hcoh hmk hnk hlow hbl
 obtain ⟨n, rfl⟩ := Int.eq_ofNat_of_zero_le hv.1
 obtain ⟨tp, rfl⟩ := Int.eq_ofNat_of_zero_le htop.1
 simp only [Int.toNat_natCast] at p1 p2 hcoh hmk hnk hlow hbl
 rw [pathsV, if_pos h1]
 refine KW.goIf lay_ok J7_ok 100 rfl (by simp) rfl trivial (fun h => ?_) fun h => ?_
 ·have hlt : tp < n := by simpa using h
  rw [runR_low (hlow (by omega))] at p1 p2
  have hone : ishl 1 (tp : Int) = Go.Pu.one tp := rfl
  have hor := validS_iff.1 (one_valid (show tp < 24 by omega))
  have e1 : pathsL ⟨n, ns, tp⟩ = [Go.Pu.one tp] := by rw [p2 rfl, argR, if_pos (by omega)]; rfl
  rw [p1, e1]
  refine KW.go lay_ok J7_ok 100 rfl (by simp [inK, bitsI]; rw [hone]; omega) ?_
  refine KW.frz 24 [2] rfl rfl rfl ?_
  exact KW.fin [] rfl rfl rfl trivial
 have hge : n ≤ tp := by simp at h; omega
 generalize hM : belowF ⟨n, ns, tp⟩ = M at *
 refine KW.go lay_ok J7_ok 100 rfl (by simp [inK, hin, h0, hM]; omega) ?_
 simp only [unN_nodesC, hM]
 refine KW.convR 28 (lsC (List.replicate ns.length [])) rfl (g := fun e q => ints ((List.replicate ns.length ([] : List Int)).getD e [])) ?_ (fun e q he hq => ?_) ?_
 ·show rows 1 (fun x _ => ints x) [] (List.replicate ns.length []) = _
  rw [rows, List.length_replicate]; rfl
 ·have : q = 0 := by omega
  subst this
  have e2 : (List.replicate ns.length ([] : List Int)).getD e [] = [] := by
   rw [List.getD_eq_getElem?_getD, List.getElem?_replicate]
   split <;> rfl
  rw [e2]
  exact ⟨rfl, rfl⟩
 refine KW.goLpR lay_ok J7_ok 100 rfl (I := fun q : Nat × List (List Int) => ⟨Tryz.f50.ntmps, [(1, .e (.r 1)), (5, .e (.r 5)), (6, .e (blV M)), (32, .e (.c (nodesC ns))), (33, sI ns.length), (34, sI q.1)],
   [(1, .box 24 [iV n, .c (nodesC ns), iV tp] none), (5, .own 25 (lsC q.2))]⟩)
  (R := fun q => q.1 ≤ ns.length /\ q.2.length = ns.length /\ runR n ns M q.1 = (q.2, 0)) (m := fun q => ns.length - q.1) (0, List.replicate ns.length []) [(1, 1), (5, 28)] rfl rfl ⟨rfl, rfl, rfl, rfl, rfl, rfl, trivial⟩ (by simp) ⟨Nat.zero_le _, by simp, rfl⟩ ⟨rfl, rfl, trivial⟩ ?_
 rintro ⟨q, tab⟩ ⟨g1, g2, g3⟩
 simp only at g1 g2 g3
 refine KW.goIf lay_ok J7_ok 100 rfl (by simp) rfl trivial (fun h => ?_) fun h => ?_
 ·have hq : q < ns.length := by simpa using h
  have hX : ns.getD (Int.toNat (q : Int)) node0 = ns[q] := by simp [List.getD_eq_getElem?_getD, hq]
  have hXq : ns.getD q node0 = ns[q] := by simp [List.getD_eq_getElem?_getD, hq]
  have hML : M.length = n + ns.length := hbl
  have hMg : M.getD (Int.toNat ((n : Int) + (q : Int))) false = M.getD (n + q) false := by rw [show Int.toNat ((n : Int) + (q : Int)) = n + q by omega]
  have okX := hnk q hq
  have hcX := hcoh q hq
  have hmX := hmk q hq
  have e2 := runR_succ n ns M q
  rw [g3, hXq] at e2
  simp only [if_true] at e2
  generalize hYY : ns[q] = Y at hX hXq okX hcX hmX e2
  refine KW.goIf lay_ok J7_ok 100 rfl (by simp [hq, hML, inK]; omega) rfl trivial (fun h => ?_) fun h => ?_
  ·have hm : ¬ M.getD (n + q) false = true := by
    simp only [hMg] at h
    simpa using h
   rw [if_neg hm] at e2
   exact KW.goToR lay_ok J7_ok 100 rfl (q + 1, tab) [(1, 1), (5, 5)] rfl rfl ⟨rfl, rfl, rfl, rfl, rfl, rfl, trivial⟩ (by simp [inK]; omega) ⟨⟨by simp only; omega, g2, e2⟩, by simp only; omega⟩ ⟨rfl, rfl, trivial⟩
  ·have hm : M.getD (n + q) false = true := by
    simp only [hMg] at h
    simpa using h
   rw [if_pos hm] at e2
   obtain ⟨c1, c5⟩ := hcX hm
   have hkd := okX.kind
   have hkk := okX.k
   have h16 := argsB_le okX.cnt
   have hkind : Y.kind = 0 /\ (Y.k = 0 ∨ Y.k = 1) ∨ Y.kind = 2 ∨ Y.kind = 3 ∨ Y.kind = 4 /\ 1 ≤ Y.k /\ Y.k ≤ Y.args.length := by
    unfold kE at hkk
    by_cases k0 : Y.kind = 0
    ·rw [if_pos k0] at hkk
     split at hkk
     ·cases hkk
     ·exact .inl ⟨k0, by omega⟩
    ·rw [if_neg k0] at hkk
     by_cases k4 : Y.kind = 4
     ·rw [if_pos k4] at hkk
      split at hkk
      ·cases hkk
      ·exact .inr (.inr (.inr ⟨k4, by omega, by omega⟩))
     ·omega
   have D := rnode34_does ⟨n, ns, tp⟩ Y tab n rfl (by omega) hkind h16 (fun a ha => by obtain ⟨_, a1, a2⟩ := hmX hm a ha; exact ⟨a1, by omega⟩) (by omega)
   generalize hPP : nodePS Y.kind Y.k (Y.args.map (argR n tab)) = PP at D e2
   obtain ⟨pl, pe⟩ := PP
   simp only at D e2
   rw [<-hX] at D
   refine KW.go lay_ok J7_ok 100 rfl (by simp [hq]) ?_
   refine KW.callK0 D (enters Tryz.func92 rfl rfl) [(2, 5)] [(2, 5)] [] (.inl rfl) rfl rfl rfl rfl rfl trivial
    ⟨⟨_, _, rfl, trivial, (show Mt _ _ _ (EV.ren [(2, 5)] (.ag _)) (.ag _) from .same)⟩, ⟨_, _, rfl, trivial, (show Mt _ _ _ (EV.ren [(2, 5)] (.ag _)) (.ag _) from .same)⟩, ⟨_, _, rfl, trivial, (show Mt _ _ _ (EV.ren [(2, 5)] (.r 2)) (.r 2) from .same)⟩, trivial⟩ rfl ⟨rfl, trivial⟩ rfl ⟨.inr ⟨rfl, .inl rfl⟩, trivial⟩ rfl rfl (.inl rfl) ?_
   refine KW.goIf lay_ok J7_ok 100 rfl (by simp) rfl trivial (fun h => ?_) fun h => ?_
   ·have hpe : ¬ pe = 0 := by simpa using h
    rw [if_neg hpe] at e2
    have e3 : runR n ns M ns.length = ([], pe) := by
     have := runR_bad (i := q + 1) (by rw [e2]; exact hpe) (ns.length - (q + 1))
     rw [show q + 1 + (ns.length - (q + 1)) = ns.length by omega, e2] at this
     exact this
    rw [e3] at p1
    have eL : pathsL ⟨n, ns, tp⟩ = [] := by rw [pathsL, if_neg (by rw [p1]; exact hpe)]
    refine KW.goOutR lay_ok J7_ok 100 rfl (by simp) ?_
    refine KW.go lay_ok J7_ok 100 rfl (by simp) ?_
    refine KW.conv 2 (ints []) rfl ⟨rfl, rfl⟩ ?_
    rw [p1, eL]
    exact KW.fin [] rfl rfl rfl trivial
   ·have hpe : pe = 0 := by simpa using h
    rw [if_pos hpe] at e2
    refine KW.go lay_ok J7_ok 100 rfl (by simp [inK]; omega) (KW.updG 5 pl rfl rfl (fun p hp => ?_) (KW.to (q + 1, tab.set q pl) ⟨⟨by simp only; omega, by simp only [List.length_set]; exact g2, e2⟩, by simp only; omega⟩ [(1, 1), (5, 5)] ⟨rfl, rfl, ⟨rfl, rfl, rfl, rfl, rfl, rfl, trivial⟩, ⟨rfl, ?_, trivial⟩⟩))
    ·have : p = 0 := by omega
     subst this
     exact CVEq.refl _
    ·rfl
 have hqe : q = ns.length := by simp at h; omega
 rw [hqe] at g3
 rw [g3] at p1 p2
 have e1 : pathsL ⟨n, ns, tp⟩ = tab.getD (Int.toNat ((tp : Int) - (n : Int))) [] := by rw [p2 rfl, argR, if_neg (by omega)]
 rw [p1, e1]
 refine KW.goOut lay_ok J7_ok 100 rfl (by simp) ?_
 refine KW.goRet lay_ok J7_ok 100 rfl rfl rfl (by simp [inK]; omega) trivial
def J8 : Fns := (50, fF (fun f => .tup [lV (pathsV f).1, iV (pathsV f).2]) FormIn) ::
 J7
theorem J8_ok : FnsOk Tryz.prog J8 := .cons (J7_ok) Tryz.func50 rfl rfl (fF_ok fun f h => rpaths34_does f h)
end Go.Proofs.YtocnofkagckhkaaGreatDoor
end
section
namespace Go.Sy
open Go.Pu
variable [Drw]
def unC : CV -> List (Int × Int)
 | .sl n _ f => (List.range n).map fun e => (cvInt (f e 0), cvInt (f e 1))
 | _ => []
def isC (x : CV) : Prop := CVEq x (cubes (unC x))
@[simp] theorem unC_cubes (xs : List (Int × Int)) : unC (cubes xs) = xs := by
  unfold unC cubes rows
  refine List.ext_getElem (by simp) fun j h1 h2 => ?_
  simp [List.getD_eq_getElem?_getD, h2, cvInt, cubeC]
@[simp] theorem isC_cubes (xs : List (Int × Int)) : isC (cubes xs) := by unfold isC; rw [unC_cubes]; exact CVEq.refl _
section
variable {P : Program} {f : FuncId}
end
end Go.Sy
namespace Go.Proofs.YtocnofkagckhkaaGreatDoor
open Go.Sy Go.Pu
variable [Drw]
def F9 : Fns := (151, fFI (fun f s => .e (blV (nodesV f s))) fun f s => FormIn f /\ formE f = 0) ::
 F8
theorem F9_ok : FnsOk Tryz.prog F9 := .cons (F8_ok) Tryz.func151 rfl rfl (fFI_ok fun f s h => rvalues_does f s h.1 h.2)
theorem ofB_all {f : FormP} {s a : Int} (hv : 0 ≤ f.vars) (h0 : 0 ≤ a) (h1 : a < f.vars + f.nodes.length) : ofB f (nodesV f s) s a = (valsF f s).getD a.toNat false := by
 have := ofB_pre (f := f) (s := s) hv (Nat.le_refl _) [] h0 h1
 rwa [List.append_nil, valsN_all _ _ (Nat.le_refl _)] at this
theorem rvalue_does (f : FormP) (s : Int) (hin : FormIn f) (h0 : formE f = 0) : DoesF Tryz.prog 131 [.ag (formC f), iV s] [] (sB (valueF f s)) [] := by
 refine DoesF.body _ Tryz.func131 rfl rfl rfl rfl ?_
 have ok := formE_ok h0
 have ht := ok.top
 have hv := ok.vars
 have hl := nodesV_length f s
 have hof := ofB_all (s := s) hv.1 ht.1 ht.2
 obtain ⟨vars, ns, top⟩ := f
 simp only at ht hl hv hof
 refine KW.goD lay_ok F9_ok rfl 100 rfl (by decide) rfl (by simp) (by simp only [unN_nodesC, isN_nodesC, unB_bools, isB_bools, true_and, and_true, hl]; exact ⟨⟨hin, h0⟩, hv, ht⟩) ?_
 refine KW.goRet lay_ok F9_ok 100 rfl rfl ?_ (by simp) trivial
 simp only [SV.ren, EV.ren, unN_nodesC, unB_bools, hof]
 rfl
end Go.Proofs.YtocnofkagckhkaaGreatDoor
namespace Go.Proofs.YtocnofkagckhkaaGreatDoor
open Go.Sy Go.Pu
variable [Drw]
end Go.Proofs.YtocnofkagckhkaaGreatDoor
namespace Go.Pu
open Go.Sy
variable [Drw]
end Go.Pu
namespace Go.Proofs.YtocnofkagckhkaaGreatDoor
open Go.Sy Go.Pu
variable [Drw]
end Go.Proofs.YtocnofkagckhkaaGreatDoor
namespace Go.Proofs.YtocnofkagckhkaaGreatDoor
open Go.Sy Go.Pu
variable [Drw]
end Go.Proofs.YtocnofkagckhkaaGreatDoor
end
section
namespace Go.Proofs.YtocnofkagckhkaaGreatDoor
open Go.Sy Go.Pu
variable [Drw]
theorem pIsPath_does (f : FormP) (s : Int) (hin : FormIn f) : DoesF Tryz.prog 67 [.ag (formC f), iV s] [] (.tup [bV (isV f s true), eV (pathSE f s)]) [] := by
 refine DoesF.body _ Tryz.func67 rfl rfl rfl rfl ?_
 obtain ⟨vars, ns, top⟩ := f
 refine KW.goRet lay_ok G7_ok 100 rfl rfl ?_ (by simp only [unN_nodesC, isN_nodesC, true_and, and_true]; simp [hin]) trivial
 simp only [unN_nodesC]; rfl
theorem pIsCut_does (f : FormP) (s : Int) (hin : FormIn f) : DoesF Tryz.prog 65 [.ag (formC f), iV s] [] (.tup [bV (isV f s false), eV (pathSE f s)]) [] := by
 refine DoesF.body _ Tryz.func65 rfl rfl rfl rfl ?_
 obtain ⟨vars, ns, top⟩ := f
 refine KW.goRet lay_ok G7_ok 100 rfl rfl ?_ (by simp only [unN_nodesC, isN_nodesC, true_and, and_true]; simp [hin]) trivial
 simp only [unN_nodesC]; rfl
def K1 : Fns := (131, fFI (fun f s => sB (valueF f s)) fun f s => FormIn f /\ formE f = 0) ::
 (107, fFI (fun f s => sI (pathSE f s)) fun f s => FormIn f) ::
 J8
theorem K1_ok : FnsOk Tryz.prog K1 := .cons (.cons (J8_ok) Tryz.func107 rfl rfl (fFI_ok fun f s h => rerrorOf34_does f s h)) Tryz.func131 rfl rfl (fFI_ok fun f s h => rvalue_does f s h.1 h.2)
theorem rpath34_does (f : FormP) (s : Int) (hin : FormIn f) (h0 : formE f = 0) : DoesF Tryz.prog 110 [.ag (formC f), iV s] [] (sB (isP f s true)) [] := by
 refine DoesF.body _ Tryz.func110 rfl rfl rfl rfl ?_
 have e : isP f s true = !valueF f (iandNot .i64 (ishl 1 f.vars - 1) s) := by
  simp only [isP, cmplF, if_true]
  cases valueF f (iandNot .i64 (ishl 1 f.vars - 1) s) <;> rfl
 rw [e]
 obtain ⟨vars, ns, top⟩ := f
 have hv := (formE_ok h0).vars
 simp only at hv
 have hsr := shl_rng hv
 refine KW.goDT lay_ok K1_ok rfl 100 rfl 9 rfl rfl rfl rfl rfl (by simp) ?_ ?_
 ·simp only [unN_nodesC, isN_nodesC, true_and, and_true, inK, bitsI]; simp [hin, h0]; omega
 refine KW.goRet lay_ok K1_ok 100 rfl rfl ?_ (by simp) trivial
 simp only [unN_nodesC]; rfl
theorem rcut34_does (f : FormP) (s : Int) (hin : FormIn f) (h0 : formE f = 0) : DoesF Tryz.prog 108 [.ag (formC f), iV s] [] (sB (isP f s false)) [] := by
 refine DoesF.body _ Tryz.func108 rfl rfl rfl rfl ?_
 rw [isP_cut]
 obtain ⟨vars, ns, top⟩ := f
 refine KW.goRet lay_ok K1_ok 100 rfl rfl ?_ (by simp [hin, h0]) trivial
 simp only [unN_nodesC]; rfl
def K2 : Fns := (110, fFI (fun f s => sB (isP f s true)) fun f s => FormIn f /\ formE f = 0) ::
 (108, fFI (fun f s => sB (isP f s false)) fun f s => FormIn f /\ formE f = 0) ::
 K1
theorem K2_ok : FnsOk Tryz.prog K2 := .cons (.cons (K1_ok) Tryz.func108 rfl rfl (fFI_ok fun f s h => rcut34_does f s h.1 h.2)) Tryz.func110 rfl rfl (fFI_ok fun f s h => rpath34_does f s h.1 h.2)
theorem rIsPath34_does (f : FormP) (s : Int) (hin : FormIn f) : DoesF Tryz.prog 75 [.ag (formC f), iV s] [] (.tup [bV (isV f s true), iV (pathSE f s)]) [] := by
 refine DoesF.body _ Tryz.func75 rfl rfl rfl rfl ?_
 obtain ⟨vars, ns, top⟩ := f
 refine KW.goIf lay_ok K2_ok 100 rfl (by simp [hin]) rfl trivial (fun h => ?_) fun h => ?_
 ·simp only [unN_nodesC] at h
  have h1 : ¬ pathSE ⟨vars, ns, top⟩ s = 0 := by
   have e : (pathSE ⟨vars, ns, top⟩ s != 0) = true := h
   simpa using e
  have e2 : isV ⟨vars, ns, top⟩ s true = false := by simp [isV, h1]
  refine KW.goRet lay_ok K2_ok 100 rfl rfl ?_ (by simp) trivial
  simp only [unN_nodesC, e2]; rfl
 ·simp only [unN_nodesC] at h
  have h1 : pathSE ⟨vars, ns, top⟩ s = 0 := by
   have e : (pathSE ⟨vars, ns, top⟩ s != 0) = false := h
   simpa using e
  obtain ⟨h0, hc, hs⟩ := pathSE_ok h1
  have e2 : isV ⟨vars, ns, top⟩ s true = isP ⟨vars, ns, top⟩ s true := by simp [isV, h1]
  refine KW.goRet lay_ok K2_ok 100 rfl rfl ?_ (by simp [hin, h0]) trivial
  simp only [unN_nodesC, e2, h1]; rfl
theorem rIsCut34_does (f : FormP) (s : Int) (hin : FormIn f) : DoesF Tryz.prog 73 [.ag (formC f), iV s] [] (.tup [bV (isV f s false), iV (pathSE f s)]) [] := by
 refine DoesF.body _ Tryz.func73 rfl rfl rfl rfl ?_
 obtain ⟨vars, ns, top⟩ := f
 refine KW.goIf lay_ok K2_ok 100 rfl (by simp [hin]) rfl trivial (fun h => ?_) fun h => ?_
 ·simp only [unN_nodesC] at h
  have h1 : ¬ pathSE ⟨vars, ns, top⟩ s = 0 := by
   have e : (pathSE ⟨vars, ns, top⟩ s != 0) = true := h
   simpa using e
  have e2 : isV ⟨vars, ns, top⟩ s false = false := by simp [isV, h1]
  refine KW.goRet lay_ok K2_ok 100 rfl rfl ?_ (by simp) trivial
  simp only [unN_nodesC, e2]; rfl
 ·simp only [unN_nodesC] at h
  have h1 : pathSE ⟨vars, ns, top⟩ s = 0 := by
   have e : (pathSE ⟨vars, ns, top⟩ s != 0) = false := h
   simpa using e
  obtain ⟨h0, hc, hs⟩ := pathSE_ok h1
  have e2 : isV ⟨vars, ns, top⟩ s false = isP ⟨vars, ns, top⟩ s false := by simp [isV, h1]
  refine KW.goRet lay_ok K2_ok 100 rfl rfl ?_ (by simp [hin, h0]) trivial
  simp only [unN_nodesC, e2, h1]; rfl
def K3 : Fns := (75, fFI (fun f s => .tup [bV (isV f s true), iV (pathSE f s)]) fun f s => FormIn f) ::
 (73, fFI (fun f s => .tup [bV (isV f s false), iV (pathSE f s)]) fun f s => FormIn f) ::
 (67, fFI (fun f s => .tup [bV (isV f s true), eV (pathSE f s)]) fun f s => FormIn f) ::
 (65, fFI (fun f s => .tup [bV (isV f s false), eV (pathSE f s)]) fun f s => FormIn f) ::
 (18, fFI (fun f s => .tup [bV (minV f s false), eV (pathSE f s)]) fun f s => FormIn f) ::
 K2
theorem K3_ok : FnsOk Tryz.prog K3 := .cons (.cons (.cons (.cons (.cons (K2_ok) Tryz.func18 rfl rfl (fFI_ok fun f s h => pMinimalCut_does f s h)) Tryz.func65 rfl rfl (fFI_ok fun f s h => pIsCut_does f s h)) Tryz.func67 rfl rfl (fFI_ok fun f s h => pIsPath_does f s h)) Tryz.func73 rfl rfl (fFI_ok fun f s h => rIsCut34_does f s h)) Tryz.func75 rfl rfl (fFI_ok fun f s h => rIsPath34_does f s h)
theorem minP_elems {f : FormP} {s : Int} {b : Bool} {n : Nat} (hn24 : n ≤ 24) (hs : inN n s) : minP f s b n = (isP f s b && (elemsS s).all fun i => !isP f (iandNot .i64 s (ishl 1 i)) b) := by
 unfold minP
 congr 1
 rw [Bool.eq_iff_iff, List.all_eq_true, List.all_eq_true]
 constructor
 ·intro h x hx
  obtain ⟨i, hi, hb, rfl⟩ := mem_elemsS.1 hx
  have hin : i < n := Nat.lt_of_not_le fun h' => by rw [hs.2 i h'] at hb; cases hb
  have := h i (by simpa using hin)
  rw [hb] at this
  have e : ishl 1 (i : Int) = Go.Pu.one i := rfl
  rw [e]
  simpa using this
 ·intro h i hi
  cases hb : bit s i with
  | false => rfl
  | true =>
    have hi' : i < n := by simpa using hi
    have := h (i : Int) (mem_elemsS.2 ⟨i, by omega, hb, rfl⟩)
    have e : ishl 1 (i : Int) = Go.Pu.one i := rfl
    rw [e] at this
    simpa using this
theorem rMinimalCut34_does (f : FormP) (s : Int) (hin : FormIn f) : DoesF Tryz.prog 74 [.ag (formC f), iV s] [] (.tup [bV (minV f s false), iV (pathSE f s)]) [] := by
 refine DoesF.body _ Tryz.func74 rfl rfl rfl rfl ?_
 obtain ⟨vars, ns, top⟩ := f
 refine KW.goIf lay_ok K3_ok 100 rfl (by simp [hin]) rfl trivial (fun h => ?_) fun h => ?_
 ·simp only [unN_nodesC] at h
  have e : (pathSE ⟨vars, ns, top⟩ s != 0 || !isV ⟨vars, ns, top⟩ s false) = true := h
  have e2 : minV ⟨vars, ns, top⟩ s false = false := by
   by_cases h1 : pathSE ⟨vars, ns, top⟩ s = 0
   ·have h2 : isP ⟨vars, ns, top⟩ s false = false := by simpa [h1, isV] using e
    simp [minV, minP, h1, h2]
   ·simp [minV, h1]
  refine KW.goRet lay_ok K3_ok 100 rfl rfl ?_ (by simp) trivial
  simp only [unN_nodesC, e2]; rfl
 simp only [unN_nodesC] at h
 have e : (pathSE ⟨vars, ns, top⟩ s != 0 || !isV ⟨vars, ns, top⟩ s false) = false := h
 have h1 : pathSE ⟨vars, ns, top⟩ s = 0 := by
  rw [Bool.or_eq_false_iff] at e; simpa using e.1
 have h2 : isP ⟨vars, ns, top⟩ s false = true := by
  rw [Bool.or_eq_false_iff] at e; simpa [isV, h1] using e.2
 obtain ⟨h0, hc, hs⟩ := pathSE_ok h1
 have hv := (formE_ok h0).vars
 simp only at hv hs
 obtain ⟨n, rfl⟩ := Int.eq_ofNat_of_zero_le hv.1
 have hn24 : n ≤ 24 := by omega
 have hsn : inN n s := (inN_iff hn24).2 ⟨hs.1, by rw [<-ishl_one]; exact hs.2⟩
 have e2 : minV ⟨n, ns, top⟩ s false = (elemsS s).all fun i => !isP ⟨n, ns, top⟩ (iandNot .i64 s (ishl 1 i)) false := by
  rw [minV, h1, show (FormP.vars ⟨n, ns, top⟩).toNat = n from rfl, minP_elems hn24 hsn, h2]; simp
 rw [e2, h1]
 have hmem : ∀ x ∈ elemsS s, ∃ i : Nat, i < 24 /\ x = i := fun x hx => by
  obtain ⟨i, hi, _, rfl⟩ := mem_elemsS.1 hx
  exact ⟨i, hi, rfl⟩
 have hel := elemsN_length s 24
 rw [show elemsN s 24 = elemsS s from rfl] at hel
 generalize hes : elemsS s = es at *
 refine KW.goLpR lay_ok K3_ok 100 rfl (I := fun q : Nat => ⟨Tryz.f74.ntmps, [(1, sI s), (2, .e (.r 2)), (24, .e (lV es)), (25, sI es.length), (26, sI q)],
   [(2, .box 24 [iV n, .c (nodesC ns), iV top] none)]⟩)
  (R := fun q => q ≤ es.length /\ ((es.drop q).all fun i => !isP ⟨n, ns, top⟩ (iandNot .i64 s (ishl 1 i)) false) = es.all fun i => !isP ⟨n, ns, top⟩ (iandNot .i64 s (ishl 1 i)) false) (m := fun q => es.length - q) 0 [(2, 2)] rfl rfl ⟨rfl, rfl, by rw [<-hes]; rfl, by rw [<-hes]; rfl, rfl, trivial⟩ (by simp) ⟨Nat.zero_le _, rfl⟩ ⟨rfl, trivial⟩ ?_
 rintro q ⟨g1, g2⟩
 refine KW.goIf lay_ok K3_ok 100 rfl (by simp) rfl trivial (fun h => ?_) fun h => ?_
 ·have hq : q < es.length := by simpa using h
  have hg : es.getD (Int.toNat (q : Int)) 0 = es[q] := by simp [List.getD_eq_getElem?_getD, hq]
  obtain ⟨i, hi, hiq⟩ := hmem _ (List.getElem_mem hq)
  rw [List.drop_eq_getElem_cons hq, List.all_cons] at g2
  generalize es[q] = y at hg g2 hiq
  subst hiq
  have hone : ishl 1 (i : Int) = Go.Pu.one i := rfl
  have hor := validS_iff.1 (one_valid hi)
  refine KW.goD lay_ok K3_ok rfl 100 rfl (by decide +kernel) rfl (by simp [hq]) ?_ ?_
  ·simp only [hg, unN_nodesC, isN_nodesC, true_and, and_true, inK, bitsI, hone]
   simp [hin, h0]
   omega
  refine KW.goIf lay_ok K3_ok 100 rfl (by simp) rfl trivial (fun h => ?_) fun h => ?_
  ·have h4 : isP ⟨n, ns, top⟩ (iandNot .i64 s (ishl 1 (i : Int))) false = true := by
    simp only [unN_nodesC, hg] at h; exact h
   rw [h4] at g2
   refine KW.goOutR lay_ok K3_ok 100 rfl (by simp) ?_
   refine KW.goRet lay_ok K3_ok 100 rfl rfl ?_ (by simp) trivial
   rw [<-g2]; rfl
  ·have h4 : isP ⟨n, ns, top⟩ (iandNot .i64 s (ishl 1 (i : Int))) false = false := by
    simp only [unN_nodesC, hg] at h; exact h
   rw [h4] at g2
   exact KW.goToR lay_ok K3_ok 100 rfl (q + 1) [(2, 2)] rfl rfl ⟨rfl, rfl, rfl, rfl, rfl, trivial⟩ (by simp [inK]; omega) ⟨⟨by omega, g2⟩, by omega⟩ ⟨rfl, trivial⟩
 ·have hq : q = es.length := by simp at h; omega
  rw [hq, List.drop_length] at g2
  refine KW.goOut lay_ok K3_ok 100 rfl (by simp) ?_
  refine KW.goRet lay_ok K3_ok 100 rfl rfl ?_ (by simp) trivial
  rw [<-g2]; rfl
def K4 : Fns := (74, fFI (fun f s => .tup [bV (minV f s false), iV (pathSE f s)]) fun f s => FormIn f) ::
 K3
theorem K4_ok : FnsOk Tryz.prog K4 := .cons (K3_ok) Tryz.func74 rfl rfl (fFI_ok fun f s h => rMinimalCut34_does f s h)
end Go.Proofs.YtocnofkagckhkaaGreatDoor
end
section
namespace Go.Pu
open Go.Sy
variable [Drw]
theorem part_iandNot (s x : Int) : Part (iandNot .i64 s x) s := fun i hi => by rw [bit_iandNot', Bool.and_eq_true] at hi; exact hi.1
end Go.Pu
namespace Go.Proofs.YtocnofkagckhkaaGreatDoor
open Go.Sy Go.Pu
variable [Drw]
theorem isP_mono {f : FormP} (ok : FormOk f) (hc : cohF f = true) {n : Nat} (hn : f.vars = n) (b : Bool) : ∀ x y, inN n x -> inN n y -> Part x y -> isP f x b = true -> isP f y b = true := by
 intro x y hx hy hp h
 have hn24 : n ≤ 24 := by have := ok.vars; omega
 cases b with
 | false =>
   rw [isP_cut] at h ⊢
   exact value_mono ok hc (fun i _ hi => hp i hi) h
 | true =>
   rw [isP_path hn] at h ⊢
   cases hv : valueF f (iandNot .i64 (allN n) y) with
   | false => rfl
   | true =>
     have := value_mono ok hc (y := iandNot .i64 (allN n) x) (fun i _ hi => by
      rw [bit_iandNot', Bool.and_eq_true] at hi ⊢
      refine ⟨hi.1, ?_⟩
      cases hxi : bit x i with
      | false => rfl
      | true => rw [hp i hxi] at hi; exact absurd hi.2 (by decide)) hv
     rw [this] at h; exact absurd h (by decide)
def K5 : Fns := K4
theorem K5_ok : FnsOk Tryz.prog K5 := K4_ok
theorem pathE_ok {f : FormP} (h1 : pathE f = 0) : formE f = 0 /\ cohF f = true := by
 unfold pathE at h1
 split at h1
 ·rename_i h0
  split at h1
  ·rename_i hc; exact ⟨h0, hc⟩
  ·cases h1
 ·rename_i h0; exact absurd h1 h0
end Go.Proofs.YtocnofkagckhkaaGreatDoor
end
section
namespace Go.Pu
open Go.Sy
variable [Drw]
def GoodP (n : Nat) (l : LS) : Prop := Fam l /\ ∀ t ∈ l, inN n t
theorem Fam.nil : Fam [] := ⟨by simp [Val], by simp, (anti (l := []) (by simp [Val]) (by simp [Asc]) (by simp)).2.1⟩
theorem Fam.sgl {i : Nat} (hi : i < 24) : Fam [Go.Pu.one i] := ⟨by simp [Val, one_valid hi], by simp, (anti (l := [Go.Pu.one i]) (by simp [Val, one_valid hi]) (by simp [Asc]) (by simp)).2.1⟩
section
variable {n : Nat}
theorem GoodP.nil : GoodP n [] := ⟨Fam.nil, by simp⟩
theorem inN_zero : inN n 0 := ⟨valid0, fun i _ => by simp⟩
theorem GoodP.zero : GoodP n [0] := ⟨Fam.zero, fun t ht => by rw [List.mem_singleton.1 ht]; exact inN_zero⟩
theorem inN_one' {i : Nat} (hn : n ≤ 24) (hi : i < n) : inN n (one i) := inN_of hn (validS_rng (one_valid (by omega))) fun j hj => by rw [one_bit (by omega)]; simp; omega
theorem GoodP.sgl {i : Nat} (hn : n ≤ 24) (hi : i < n) : GoodP n [Go.Pu.one i] := ⟨Fam.sgl (by omega), fun t ht => by rw [List.mem_singleton.1 ht]; exact inN_one' hn hi⟩
theorem mem_unionsC {a b : LS} {x : Int} (h : x ∈ unionsC a b) : ∃ y ∈ minS a, ∃ z ∈ minS b, x = ior .i64 y z := by
 unfold unionsC at h
 rcases (addAll_mem _ _ _).1 h with h | h
 ·cases h
 ·unfold unionsL at h
  obtain ⟨y, hy, hx⟩ := List.mem_flatMap.1 h
  obtain ⟨z, hz, rfl⟩ := List.mem_map.1 hx
  exact ⟨y, hy, z, hz, rfl⟩
theorem plus_good {a b : LS} (ha : GoodP n a) (hb : GoodP n b) (h : (plusP a b).2 = 0) : GoodP n (plusP a b).1 /\ ∀ x, Cov (plusP a b).1 x ↔ Cov a x ∨ Cov b x := by
 have hf := plus_fam h
 have hv : Val (a ++ b) := ha.1.val.append hb.1.val
 have e : (plusP a b).1 = minS (a ++ b) := by
  unfold plusP at h ⊢
  split at h
  ·rename_i h1; rw [if_pos h1]; exact (limL_zero h).1
  ·rename_i h1; exact absurd h h1
 rw [e] at hf ⊢
 refine ⟨⟨hf, fun t ht => ?_⟩, fun x => by rw [cov_minS hv, cov_append]⟩
 exact (List.mem_append.1 (minS_sub hv ht)).elim (ha.2 t) (hb.2 t)
theorem prod_good {a b : LS} (hn : n ≤ 24) (ha : GoodP n a) (hb : GoodP n b) (h : (prodP a b).2 = 0) : GoodP n (prodP a b).1 /\ ∀ x, Cov (prodP a b).1 x ↔ Cov a x /\ Cov b x := by
 have hf := prod_fam h
 have hv : Val (unionsC a b) := ha.1.val.unionsC hb.1.val
 have e : (prodP a b).1 = minS (unionsC a b) := by
  unfold prodP at h ⊢
  split at h
  ·rename_i h1; rw [if_pos h1]; exact (limL_zero h).1
  ·rename_i h1; exact absurd h h1
 rw [e] at hf ⊢
 refine ⟨⟨hf, fun t ht => ?_⟩, fun x => by rw [cov_minS hv, cov_unionsC ha.1.val hb.1.val]⟩
 obtain ⟨y, hy, z, hz, rfl⟩ := mem_unionsC (minS_sub hv ht)
 exact inN_ior hn (ha.2 y (minS_sub ha.1.val hy)) (hb.2 z (minS_sub hb.1.val hz))
theorem foldP_plus : ∀ (rs : List LS) {acc : LS}, GoodP n acc -> (∀ r ∈ rs, GoodP n r) -> (foldP plusP rs acc).2 = 0 -> GoodP n (foldP plusP rs acc).1 /\ ∀ x, Cov (foldP plusP rs acc).1 x ↔ Cov acc x ∨ ∃ r ∈ rs, Cov r x
 | [], acc, ha, _, _ => ⟨ha, fun x => by simp [foldP]⟩
 | r :: rs, acc, ha, hr, h => by
   rw [foldP] at h ⊢
   split at h
   ·rename_i h1
    rw [if_pos h1]
    obtain ⟨g1, g2⟩ := plus_good ha (hr r (.head _)) h1
    obtain ⟨k1, k2⟩ := foldP_plus rs g1 (fun r hr' => hr r (.tail _ hr')) h
    exact ⟨k1, fun x => by rw [k2 x, g2 x]; simp [or_assoc]⟩
   ·rename_i h1; exact absurd h h1
theorem foldP_prod (hn : n ≤ 24) : ∀ (rs : List LS) {acc : LS}, GoodP n acc -> (∀ r ∈ rs, GoodP n r) -> (foldP prodP rs acc).2 = 0 -> GoodP n (foldP prodP rs acc).1 /\ ∀ x, Cov (foldP prodP rs acc).1 x ↔ Cov acc x /\ ∀ r ∈ rs, Cov r x
 | [], acc, ha, _, _ => ⟨ha, fun x => by simp [foldP]⟩
 | r :: rs, acc, ha, hr, h => by
   rw [foldP] at h ⊢
   split at h
   ·rename_i h1
    rw [if_pos h1]
    obtain ⟨g1, g2⟩ := prod_good hn ha (hr r (.head _)) h1
    obtain ⟨k1, k2⟩ := foldP_prod hn rs g1 (fun r hr' => hr r (.tail _ hr')) h
    exact ⟨k1, fun x => by rw [k2 x, g2 x]; simp [and_assoc]⟩
   ·rename_i h1; exact absurd h h1
theorem voteJ_spec (row : LS) : ∀ (j : Nat) {tab : List LS}, j < tab.length -> (voteJ row j tab).2 = 0 -> (voteJ row j tab).1.length = tab.length /\ (∀ i, j < i ∨ i = 0 -> (voteJ row j tab).1.getD i [] = tab.getD i []) /\
  ∀ i, i < j -> (prodP (tab.getD i []) row).2 = 0 /\ (plusP (tab.getD (i + 1) []) (prodP (tab.getD i []) row).1).2 = 0 /\ (voteJ row j tab).1.getD (i + 1) [] = (plusP (tab.getD (i + 1) []) (prodP (tab.getD i []) row).1).1
 | 0, tab, _, _ => ⟨rfl, fun _ _ => rfl, fun i hi => by omega⟩
 | j + 1, tab, hj, h => by
   rw [voteJ] at h ⊢
   split at h
   ·rename_i h1
    rw [if_pos h1]
    split at h
    ·rename_i h2
     rw [if_pos h2]
     obtain ⟨k1, k2, k3⟩ := voteJ_spec row j (tab := tab.set (j + 1) (plusP (tab.getD (j + 1) []) (prodP (tab.getD j []) row).1).1) (by simp; omega) h
     refine ⟨by rw [k1, List.length_set], fun i hi => ?_, fun i hi => ?_⟩
     ·rw [k2 i (by omega), getD_set_far (by omega)]
     ·by_cases hij : i = j
      ·subst hij
       refine ⟨h1, h2, ?_⟩
       rw [k2 (i + 1) (.inl (by omega)), getD_set_at (by omega)]
      ·have := k3 i (by omega)
       rw [getD_set_far (i := j + 1) (j := i) (by omega), getD_set_far (i := j + 1) (j := i + 1) (by omega)] at this
       exact this
    ·rename_i h2; exact absurd h h2
   ·rename_i h1; exact absurd h h1
def cntC (x : Int) (rs : List LS) : Nat := (rs.filter fun r => r.any fun t => subS t x).length
theorem voteR_spec (hn : n ≤ 24) (k : Nat) : ∀ (rs : List LS) {tab : List LS}, tab.length = k + 1 -> (∀ j, GoodP n (tab.getD j [])) -> (∀ r ∈ rs, GoodP n r) -> (voteR k rs tab).2 = 0 ->
  (∀ j, GoodP n ((voteR k rs tab).1.getD j [])) /\ ∀ x (c : Nat), (∀ j, j ≤ k -> (Cov (tab.getD j []) x ↔ j ≤ c)) -> ∀ j, j ≤ k -> (Cov ((voteR k rs tab).1.getD j []) x ↔ j ≤ c + cntC x rs)
 | [], tab, _, hg, _, _ => ⟨hg, fun x c h j hj => by simpa [voteR, cntC] using h j hj⟩
 | r :: rs, tab, hl, hg, hr, h => by
   rw [voteR] at h ⊢
   split at h
   ·rename_i h1
    rw [if_pos h1]
    obtain ⟨k1, k2, k3⟩ := voteJ_spec r k (by omega) h1
    have hgr := hr r (.head _)
    have hgj : ∀ j, GoodP n ((voteJ r k tab).1.getD j []) := fun j => by
     by_cases hj : k < j ∨ j = 0
     ·rw [k2 j hj]; exact hg j
     ·obtain ⟨i, rfl⟩ : ∃ i, j = i + 1 := ⟨j - 1, by omega⟩
      obtain ⟨e1, e2, e3⟩ := k3 i (by omega)
      rw [e3]
      exact (plus_good (hg _) (prod_good hn (hg _) hgr e1).1 e2).1
    obtain ⟨m1, m2⟩ := voteR_spec hn k rs (by rw [k1, hl]) hgj (fun r hr' => hr r (.tail _ hr')) h
    refine ⟨m1, fun x c hc j hj => ?_⟩
    by_cases hrx : (r.any fun t => subS t x) = true
    ·have hcr : Cov r x := (any_cov hgr.1.val x).1 hrx
     have ec : cntC x (r :: rs) = cntC x rs + 1 := by simp [cntC, List.filter_cons, hrx]
     rw [ec, m2 x (c + 1) (fun j hj => ?_) j hj]
     ·omega
     ·by_cases hj0 : j = 0
      ·subst hj0
       rw [k2 0 (.inr rfl), hc 0 (by omega)]; omega
      ·obtain ⟨i, rfl⟩ : ∃ i, j = i + 1 := ⟨j - 1, by omega⟩
       obtain ⟨e1, e2, e3⟩ := k3 i (by omega)
       rw [e3, (plus_good (hg _) (prod_good hn (hg _) hgr e1).1 e2).2 x, (prod_good hn (hg _) hgr e1).2 x, hc (i + 1) (by omega), hc i (by omega)]
       simp only [hcr, and_true]
       omega
    ·have hcr : ¬ Cov r x := fun h => hrx ((any_cov hgr.1.val x).2 h)
     have ec : cntC x (r :: rs) = cntC x rs := by simp [cntC, List.filter_cons, hrx]
     rw [ec, m2 x c (fun j hj => ?_) j hj]
     by_cases hj0 : j = 0
     ·subst hj0
      rw [k2 0 (.inr rfl), hc 0 (by omega)]
     ·obtain ⟨i, rfl⟩ : ∃ i, j = i + 1 := ⟨j - 1, by omega⟩
      obtain ⟨e1, e2, e3⟩ := k3 i (by omega)
      rw [e3, (plus_good (hg _) (prod_good hn (hg _) hgr e1).1 e2).2 x, (prod_good hn (hg _) hgr e1).2 x, hc (i + 1) (by omega)]
      simp only [hcr, and_false, or_false]
   ·rename_i h1; exact absurd h h1
theorem tab0_getD (k j : Nat) : (tab0 k).getD j [] = if j = 0 then [0] else [] := by
 unfold tab0
 by_cases hj : j = 0
 ·subst hj
  rw [getD_set_at (by simp), if_pos rfl]
 ·rw [getD_set_far (by omega), if_neg hj, List.getD_eq_getElem?_getD, List.getElem?_replicate]
  split <;> rfl
theorem cov_nil (x : Int) : ¬ Cov [] x := fun ⟨_, h, _⟩ => by cases h
theorem cov_zero (x : Int) : Cov [0] x := ⟨0, .head _, bit0 x⟩
theorem voteP_good (hn : n ≤ 24) {rs : List LS} {k : Nat} (hr : ∀ r ∈ rs, GoodP n r) (h : (voteP rs k).2 = 0) : GoodP n (voteP rs k).1 /\ ∀ x, Cov (voteP rs k).1 x ↔ k ≤ cntC x rs := by
 unfold voteP at h ⊢
 split at h
 ·rename_i h1
  rw [if_pos h1]
  have h0 : ∀ j, GoodP n ((tab0 k).getD j []) := fun j => by
   rw [tab0_getD]; split
   ·exact GoodP.zero
   ·exact GoodP.nil
  obtain ⟨m1, m2⟩ := voteR_spec hn k rs (by simp [tab0]) h0 hr h1
  refine ⟨m1 k, fun x => ?_⟩
  have := m2 x 0 (fun j hj => ?_) k (Nat.le_refl _)
  ·rw [Nat.zero_add] at this; exact this
  ·rw [tab0_getD]
   split
   ·rename_i h; subst h; simp [cov_zero]
   ·rename_i h; constructor
    ·intro hc; exact absurd hc (cov_nil x)
    ·intro hc; omega
 ·rename_i h1; exact absurd h h1
theorem filt_two {α : Type} (p : α -> Bool) : ∀ l : List α, (l.filter p).length + (l.filter fun a => !p a).length = l.length
 | [] => rfl
 | a :: l => by
   have := filt_two p l
   simp only [List.filter_cons]
   cases p a <;> simp <;> omega
theorem node_good (hn : n ≤ 24) {X : NodeP} {R : Int -> LS} {v : List Bool} {x : Int} (hk : X.kind = 0 /\ (X.k = 0 ∨ X.k = 1) ∨ X.kind = 2 ∨ X.kind = 3 ∨ X.kind = 4 /\ 1 ≤ X.k /\ X.k ≤ X.args.length)
  (hr : ∀ a ∈ X.args, GoodP n (R a)) (h : (nodePS X.kind X.k (X.args.map R)).2 = 0) : GoodP n (nodePS X.kind X.k (X.args.map R)).1 /\ ((∀ a ∈ X.args, (Cov (R a) x ↔ v.getD a.toNat false = false)) -> (Cov (nodePS X.kind X.k (X.args.map R)).1 x ↔ nodeV X (cntT v X.args) = false)) := by
 have hrr : ∀ r ∈ X.args.map R, GoodP n r := fun r hr' => by
  obtain ⟨a, ha, rfl⟩ := List.mem_map.1 hr'
  exact hr a ha
 obtain ⟨kind, k, args⟩ := X
 simp only at hk hr h hrr ⊢
 rcases hk with ⟨rfl, hk⟩ | rfl | rfl | ⟨rfl, hk1, hk2⟩
 ·rcases hk with rfl | rfl
  ·have e : nodePS 0 0 (args.map R) = ([0], 0) := by simp [nodePS]
   rw [e]
   exact ⟨GoodP.zero, fun _ => by simp [nodeV, cov_zero]⟩
  ·have e : nodePS 0 1 (args.map R) = ([], 0) := by simp [nodePS]
   rw [e]
   exact ⟨GoodP.nil, fun _ => by simp [nodeV, cov_nil]⟩
 ·have e : nodePS 2 k (args.map R) = foldP plusP (args.map R) [] := by simp [nodePS]
  rw [e] at h ⊢
  obtain ⟨g1, g2⟩ := foldP_plus _ GoodP.nil hrr h
  refine ⟨g1, fun hc => ?_⟩
  rw [g2 x]
  simp only [cov_nil, false_or, nodeV, Int.reduceEq, if_false, if_true, decide_eq_false_iff_not]
  rw [cntT_all]
  constructor
  ·rintro ⟨r, hr', hx⟩ hall
   obtain ⟨a, ha, rfl⟩ := List.mem_map.1 hr'
   have := (hc a ha).1 hx
   rw [hall a ha] at this; cases this
  ·intro hne
   have : ∃ a ∈ args, v.getD a.toNat false = false := Classical.byContradiction fun hno => hne fun a ha => by
    cases hb : v.getD a.toNat false with
    | true => rfl
    | false => exact absurd ⟨a, ha, hb⟩ hno
   obtain ⟨a, ha, hb⟩ := this
   exact ⟨R a, List.mem_map.2 ⟨a, ha, rfl⟩, (hc a ha).2 hb⟩
 ·have e : nodePS 3 k (args.map R) = foldP prodP (args.map R) [0] := by simp [nodePS]
  rw [e] at h ⊢
  obtain ⟨g1, g2⟩ := foldP_prod hn _ GoodP.zero hrr h
  refine ⟨g1, fun hc => ?_⟩
  rw [g2 x]
  simp only [cov_zero, true_and, nodeV, Int.reduceEq, if_false, if_true, decide_eq_false_iff_not]
  rw [cntT_pos]
  constructor
  ·rintro hall ⟨a, ha, hb⟩
   have := (hc a ha).1 (hall _ (List.mem_map.2 ⟨a, ha, rfl⟩))
   rw [hb] at this; cases this
  ·intro hne r hr'
   obtain ⟨a, ha, rfl⟩ := List.mem_map.1 hr'
   refine (hc a ha).2 ?_
   cases hb : v.getD a.toNat false with
   | false => rfl
   | true => exact absurd ⟨a, ha, hb⟩ hne
 ·have e : nodePS 4 k (args.map R) = voteP (args.map R) ((args.length : Int) - k + 1).toNat := by simp [nodePS]
  rw [e] at h ⊢
  obtain ⟨g1, g2⟩ := voteP_good hn hrr h
  refine ⟨g1, fun hc => ?_⟩
  rw [g2 x]
  simp only [nodeV, Int.reduceEq, if_false, if_true, decide_eq_false_iff_not]
  have ec : (cntC x (args.map R) : Int) = args.length - cntT v args := by
   unfold cntC cntT
   rw [List.filter_map, List.length_map]
   have e1 : args.filter ((fun r : LS => r.any fun t => subS t x) ∘ R) = args.filter fun a => !v.getD a.toNat false := by
    refine List.filter_congr fun a ha => ?_
    have h1 := any_cov (hr a ha).1.val x
    have h2 := hc a ha
    simp only [Function.comp_apply]
    cases hb : v.getD a.toNat false with
    | false => exact h1.2 (h2.2 hb)
    | true =>
      cases hx : ((R a).any fun t => subS t x) with
      | false => rfl
      | true => rw [h2.1 (h1.1 hx)] at hb; cases hb
   rw [e1]
   have := filt_two (fun a : Int => v.getD a.toNat false) args
   omega
  have := cntT_rng v args
  omega
theorem limE_err (l : LS) : limE l = 0 ∨ limE l = 4 := by
 unfold limE; split
 ·exact .inr rfl
 ·exact .inl rfl
theorem plus_err {a b : LS} (ha : GoodP n a) (hb : GoodP n b) : (plusP a b).2 = 0 ∨ (plusP a b).2 = 4 := by
 unfold plusP
 rw [if_pos (bothE_zero ha.1.len hb.1.len ha.1.val hb.1.val)]
 exact limE_err _
theorem prod_err {a b : LS} (ha : GoodP n a) (hb : GoodP n b) : (prodP a b).2 = 0 ∨ (prodP a b).2 = 4 := by
 unfold prodP
 rw [if_pos (bothE_zero ha.1.len hb.1.len ha.1.val hb.1.val)]
 exact limE_err _
theorem foldP_err {op : LS -> LS -> LS × Int} (h1 : ∀ a b, GoodP n a -> GoodP n b -> (op a b).2 = 0 ∨ (op a b).2 = 4) (h2 : ∀ a b, GoodP n a -> GoodP n b -> (op a b).2 = 0 -> GoodP n (op a b).1) : ∀ (rs : List LS) {acc : LS}, GoodP n acc -> (∀ r ∈ rs, GoodP n r) -> (foldP op rs acc).2 = 0 ∨ (foldP op rs acc).2 = 4
 | [], acc, _, _ => .inl rfl
 | r :: rs, acc, ha, hr => by
   rw [foldP]
   split
   ·rename_i h
    exact foldP_err h1 h2 rs (h2 _ _ ha (hr r (.head _)) h) fun r hr' => hr r (.tail _ hr')
   ·exact h1 _ _ ha (hr r (.head _))
theorem getD_set_any {α : Type} {l : List α} {x d : α} {i j : Nat} (P : α -> Prop) (h1 : P x) (h2 : P (l.getD j d)) : P ((l.set i x).getD j d) := by
 by_cases hij : i = j
 ·subst hij
  by_cases hi : i < l.length
  ·rw [getD_set_at hi]; exact h1
  ·rw [List.getD_eq_getElem?_getD, List.set_eq_of_length_le (by omega)]
   rw [List.getD_eq_getElem?_getD] at h2; exact h2
 ·rw [getD_set_far hij]; exact h2
theorem voteJ_err (hn : n ≤ 24) {row : LS} (hr : GoodP n row) : ∀ (j : Nat) {tab : List LS}, (∀ j, GoodP n (tab.getD j [])) -> ((voteJ row j tab).2 = 0 ∨ (voteJ row j tab).2 = 4) /\ ((voteJ row j tab).2 = 0 -> ∀ j', GoodP n ((voteJ row j tab).1.getD j' []))
 | 0, tab, h => ⟨.inl rfl, fun _ => h⟩
 | j + 1, tab, h => by
   rw [voteJ]
   split
   ·rename_i h1
    have g1 := (prod_good hn (h j) hr h1).1
    split
    ·rename_i h2
     have g2 := (plus_good (h (j + 1)) g1 h2).1
     exact voteJ_err hn hr j fun j' => getD_set_any _ g2 (h j')
    ·rename_i h2
     exact ⟨plus_err (h (j + 1)) g1, fun h => absurd h h2⟩
   ·rename_i h1
    exact ⟨prod_err (h j) hr, fun h => absurd h h1⟩
theorem voteR_err (hn : n ≤ 24) (k : Nat) : ∀ (rs : List LS) {tab : List LS}, (∀ j, GoodP n (tab.getD j [])) -> (∀ r ∈ rs, GoodP n r) -> (voteR k rs tab).2 = 0 ∨ (voteR k rs tab).2 = 4
 | [], tab, _, _ => .inl rfl
 | r :: rs, tab, h, hr => by
   rw [voteR]
   obtain ⟨e1, e2⟩ := voteJ_err hn (hr r (.head _)) k h
   split
   ·rename_i h1
    exact voteR_err hn k rs (e2 h1) fun r hr' => hr r (.tail _ hr')
   ·exact e1
theorem tab0_good (k j : Nat) : GoodP n ((tab0 k).getD j []) := by
 rw [tab0_getD]; split
 ·exact GoodP.zero
 ·exact GoodP.nil
theorem node_err (hn : n ≤ 24) (kind k : Int) {rs : List LS} (hr : ∀ r ∈ rs, GoodP n r) : (nodePS kind k rs).2 = 0 ∨ (nodePS kind k rs).2 = 4 := by
 unfold nodePS
 split
 ·exact .inl rfl
 split
 ·exact foldP_err (fun a b ha hb => prod_err ha hb) (fun a b ha hb h => (prod_good hn ha hb h).1) rs GoodP.zero hr
 split
 ·exact foldP_err (fun a b ha hb => plus_err ha hb) (fun a b ha hb h => (plus_good ha hb h).1) rs GoodP.nil hr
 unfold voteP
 have := voteR_err hn ((rs.length : Int) - k + 1).toNat rs (tab := tab0 ((rs.length : Int) - k + 1).toNat) (fun j => tab0_good _ j) hr
 split
 ·exact .inl rfl
 ·exact this
end
end Go.Pu
end
section
namespace Go.Proofs.YtocnofkagckhkaaGreatDoor
open Go.Sy Go.Pu
variable [Drw]
theorem node_kind {f : FormP} (ok : FormOk f) (hc : cohF f = true) {q : Nat} (hq : q < f.nodes.length) (hm : (belowF f).getD (f.vars.toNat + q) false = true) :
  f.nodes[q].kind = 0 /\ (f.nodes[q].k = 0 ∨ f.nodes[q].k = 1) ∨ f.nodes[q].kind = 2 ∨ f.nodes[q].kind = 3 ∨ f.nodes[q].kind = 4 /\ 1 ≤ f.nodes[q].k /\ f.nodes[q].k ≤ f.nodes[q].args.length := by
 obtain ⟨c1, c5⟩ := coh_node hc hq hm
 have hkd := (ok.nodes q hq).kind
 have hkk := (ok.nodes q hq).k
 generalize f.nodes[q] = Y at *
 unfold kE at hkk
 by_cases k0 : Y.kind = 0
 ·rw [if_pos k0] at hkk
  split at hkk
  ·cases hkk
  ·exact .inl ⟨k0, by omega⟩
 ·rw [if_neg k0] at hkk
  by_cases k4 : Y.kind = 4
  ·rw [if_pos k4] at hkk
   split at hkk
   ·cases hkk
   ·exact .inr (.inr (.inr ⟨k4, by omega, by omega⟩))
  ·omega
theorem run_good {f : FormP} (ok : FormOk f) (hc : cohF f = true) {n : Nat} (hn : f.vars = n) : ∀ i, i ≤ f.nodes.length -> ((runR n f.nodes (belowF f) i).2 = 0 ∨ (runR n f.nodes (belowF f) i).2 = 4) /\ ((runR n f.nodes (belowF f) i).2 = 0 -> (runR n f.nodes (belowF f) i).1.length = f.nodes.length /\
  ∀ a : Nat, a < n + i -> (belowF f).getD a false = true -> GoodP n (argR n (runR n f.nodes (belowF f) i).1 a) /\ ∀ s, inN n s -> (Cov (argR n (runR n f.nodes (belowF f) i).1 a) (iandNot .i64 (allN n) s) ↔ (valsF f s).getD a false = false))
 | 0, _ => by
   have hv := ok.vars
   have hn24 : n ≤ 24 := by omega
   refine ⟨.inl rfl, fun _ => ⟨by simp [runR], fun a ha _ => ?_⟩⟩
   have e : argR n (runR n f.nodes (belowF f) 0).1 (a : Int) = [Go.Pu.one a] := by rw [argR, if_pos (by omega), Int.toNat_natCast]
   rw [e]
   refine ⟨GoodP.sgl hn24 (by omega), fun s hs => ?_⟩
   rw [valsF_event f s (by omega)]
   have h1 : Cov [Go.Pu.one a] (iandNot .i64 (allN n) s) ↔ Part (Go.Pu.one a) (iandNot .i64 (allN n) s) := by simp [Cov]
   rw [h1, part_one (by omega), bit_iandNot', bit_allN hn24, decide_eq_true (show a < n by omega)]
   cases bit s a <;> simp
 | i + 1, hi => by
   have hv := ok.vars
   have hn24 : n ≤ 24 := by omega
   have hnn : f.vars.toNat = n := by omega
   have hi' : i < f.nodes.length := by omega
   obtain ⟨ih1, ih2⟩ := run_good ok hc hn i (by omega)
   have e2 := runR_succ n f.nodes (belowF f) i
   have hX : f.nodes.getD i node0 = f.nodes[i] := by simp [List.getD_eq_getElem?_getD, show i < f.nodes.length by omega]
   by_cases h0 : (runR n f.nodes (belowF f) i).2 = 0
   ·obtain ⟨hlen, hrel⟩ := ih2 h0
    rw [if_pos h0] at e2
    by_cases hm : (belowF f).getD (n + i) false = true
    ·rw [if_pos hm, hX] at e2
     have hk := node_kind ok hc (q := i) hi' (by rw [hnn]; exact hm)
     have hcl := below_closed ok i hi' (by rw [hnn]; exact hm)
     have hval := fun s => valsF_node ok s (q := i) hi'
     rw [hnn] at hcl hval
     clear ih1 ih2
     generalize hRR : runR n f.nodes (belowF f) i = RR at h0 hlen hrel e2
     obtain ⟨tab, er⟩ := RR
     simp only at h0 hlen hrel e2
     generalize f.nodes[i] = X at hk hcl hval e2
     have hga : ∀ a ∈ X.args, GoodP n (argR n tab a) := fun a ha => by
      obtain ⟨c1, c2, c3⟩ := hcl a ha
      have := (hrel a.toNat c3 c1).1
      rwa [Int.toNat_of_nonneg c2] at this
     have herr := node_err hn24 X.kind X.k (rs := X.args.map (argR n tab)) fun r hr => by
      obtain ⟨a, ha, rfl⟩ := List.mem_map.1 hr
      exact hga a ha
     by_cases hp0 : (nodePS X.kind X.k (X.args.map (argR n tab))).2 = 0
     ·rw [if_pos hp0] at e2
      rw [e2]
      refine ⟨.inl rfl, fun _ => ⟨by simp [hlen], fun a ha hma => ?_⟩⟩
      by_cases hai : a = n + i
      ·subst hai
       have e4 : argR n (tab.set i (nodePS X.kind X.k (X.args.map (argR n tab))).1) ((n + i : Nat) : Int) = (nodePS X.kind X.k (X.args.map (argR n tab))).1 := by
        rw [argR, if_neg (by omega), show Int.toNat (((n + i : Nat) : Int) - (n : Int)) = i by omega, getD_set_at (by omega)]
       rw [e4]
       refine ⟨(node_good (x := 0) (v := []) hn24 hk hga hp0).1, fun s hs => ?_⟩
       rw [hval s]
       refine (node_good (x := iandNot .i64 (allN n) s) (v := valsF f s) hn24 hk hga hp0).2 fun a ha => ?_
       obtain ⟨c1, c2, c3⟩ := hcl a ha
       have := (hrel a.toNat c3 c1).2 s hs
       rwa [Int.toNat_of_nonneg c2] at this
      ·have e4 : argR n (tab.set i (nodePS X.kind X.k (X.args.map (argR n tab))).1) (a : Int) = argR n tab a := by
        unfold argR
        by_cases han : (a : Int) < n
        ·rw [if_pos han, if_pos han]
        ·rw [if_neg han, if_neg han]
         exact getD_set_far (by omega)
       rw [e4]
       exact hrel a (by omega) hma
     ·rw [if_neg hp0] at e2
      rw [e2]
      exact ⟨herr, fun h => absurd h hp0⟩
    ·rw [if_neg hm] at e2
     rw [e2]
     refine ⟨ih1, fun _ => ⟨hlen, fun a ha hma => ?_⟩⟩
     by_cases hai : a = n + i
     ·subst hai; exact absurd hma hm
     ·exact hrel a (by omega) hma
   ·rw [if_neg h0] at e2
    rw [e2]
    exact ⟨ih1, fun h => absurd h h0⟩
theorem path_facts {f : FormP} {n : Nat} (h1 : pathE f = 0) (hn : f.vars = n) : (pathsE f = 0 ∨ pathsE f = 4) /\ (pathsE f = 0 -> GoodP n (pathsL f) /\ (∀ s, inN n s -> (Cov (pathsL f) (iandNot .i64 (allN n) s) ↔ valueF f s = false)) /\
  ∀ t ∈ pathsL f, minV f t true = true /\ pathSE f t = 0) := by
 obtain ⟨h0, hc⟩ := pathE_ok h1
 have ok := formE_ok h0
 have hv := ok.vars
 have htop := ok.top
 have hn24 : n ≤ 24 := by omega
 have hnn : f.vars.toNat = n := by omega
 obtain ⟨p1, p2⟩ := paths_run ok hc h0
 obtain ⟨r1, r2⟩ := run_good ok hc hn f.nodes.length (Nat.le_refl _)
 rw [hnn] at p1 p2
 rw [p1]
 refine ⟨r1, fun hz => ?_⟩
 obtain ⟨_, r3⟩ := r2 hz
 obtain ⟨g1, g2⟩ := r3 f.top.toNat (by omega) (marksF_top ok _)
 rw [Int.toNat_of_nonneg htop.1, <-p2 hz] at g1 g2
 refine ⟨g1, g2, fun t ht => ?_⟩
 have htn := g1.2 t ht
 have htn' := (inN_iff hn24).1 htn
 have hE : pathSE f t = 0 := by rw [pathSE, if_pos h1, if_pos ⟨htn'.1, by rw [hn, ishl_one]; exact htn'.2⟩]
 refine ⟨?_, hE⟩
 have hdbl : ∀ x, inN n x -> iandNot .i64 (allN n) (iandNot .i64 (allN n) x) = x := fun x hx => inN.ext (inN_iandNot hn24 (inN_allN hn24)) hx fun i hi => by
  rw [bit_iandNot', bit_iandNot', bit_allN hn24, decide_eq_true hi]
  simp
 have hP : ∀ x, inN n x -> (isP f x true = true ↔ Cov (pathsL f) x) := fun x hx => by
  have := g2 _ (inN_iandNot (y := x) hn24 (inN_allN hn24))
  rw [hdbl x hx] at this
  rw [isP_path hn, Bool.not_eq_true']
  exact this.symm
 rw [minV, hE, hnn]
 simp only [decide_true, Bool.true_and]
 refine minP_iff.2 ⟨(hP t htn).2 ⟨t, ht, Part.refl t⟩, fun i hi hb => ?_⟩
 cases hpp : isP f (iandNot .i64 t (Go.Pu.one i)) true with
 | false => rfl
 | true =>
   exfalso
   obtain ⟨u, hu, hup⟩ := (hP _ (inN_iandNot hn24 htn)).1 hpp
   have hut : Part u t := hup.trans (part_iandNot _ _)
   have ht' := ht
   rw [<-g1.1.min] at ht'
   have e := ((mem_minS g1.1.val t).1 ht').2 u hu hut
   subst e
   have := hup i hb
   rw [bit_iandNot', one_bit (by omega)] at this
   simp at this
theorem iand_part0 {n : Nat} {t s : Int} (ht : inN n t) (hs : inN n s) (hn : n ≤ 24) : iand .i64 t s = 0 ↔ Part t (iandNot .i64 (allN n) s) := by
 rw [iand_zero']
 constructor
 ·intro h i hb
  have hi : i < n := Nat.lt_of_not_le fun h' => by rw [ht.2 i h'] at hb; cases hb
  have := h i (by omega)
  rw [hb, Bool.true_and] at this
  rw [bit_iandNot', bit_allN hn, decide_eq_true hi, this]; rfl
 ·intro h i hi
  cases hb : bit t i with
  | false => rfl
  | true =>
    have := h i hb
    rw [bit_iandNot', Bool.and_eq_true] at this
    simpa using this.2
def K6 : Fns := (19, fFI (fun f s => .tup [bV (valV f s), eV (stateE f s)]) fun f s => FormIn f) ::
 (24, fL (fun l => .e (eV (checkE l))) fun _ => True) ::
 (20, fLI (fun l s => .tup [bV (decide (listE l = 0) && validS s && l.any (fun t => subS t s)), eV (if listE l = 0 then if validS s then 0 else 3 else listE l)]) fun _ _ => True) ::
 K5
theorem K6_ok : FnsOk Tryz.prog K6 := .cons (.cons (.cons (K5_ok) Tryz.func20 rfl rfl (fLI_ok fun l s _ => covers_does l s)) Tryz.func24 rfl rfl (fL_ok fun l _ => check_does l)) Tryz.func19 rfl rfl (fFI_ok fun f s h => value_does f s h)
theorem hit_facts {f : FormP} {n : Nat} (h1 : pathE f = 0) (hn : f.vars = n) (hz : pathsE f = 0) (hh : hitE (pathsL f) = 0) : (∀ x, inN n x -> (Cov (hitL (pathsL f)) x ↔ valueF f x = true)) /\ Fam (hitL (pathsL f)) /\ ∀ t ∈ hitL (pathsL f), minV f t false = true /\ pathSE f t = 0 := by
 obtain ⟨h0, hc⟩ := pathE_ok h1
 have hv := (formE_ok h0).vars
 have hn24 : n ≤ 24 := by omega
 have hnn : f.vars.toNat = n := by omega
 obtain ⟨g1, g2, _⟩ := (path_facts h1 hn).2 hz
 generalize pathsL f = L at *
 have hcut : ∀ x, inN n x -> (valueF f x = true ↔ Hit L x) := fun x hx => by
  have h2 := g2 x hx
  constructor
  ·intro hv t ht hz
   rw [h2.1 ⟨t, ht, (iand_part0 (g1.2 t ht) hx hn24).1 hz⟩] at hv; cases hv
  ·intro hit
   cases hb : valueF f x with
   | true => rfl
   | false =>
     obtain ⟨t, ht, hp⟩ := h2.2 hb
     exact absurd ((iand_part0 (g1.2 t ht) hx hn24).2 hp) (hit t ht)
 refine ⟨fun x hx => by rw [hit_cov hh x, hcut x hx], hit_fam hh, fun t ht => ?_⟩
 have hm := hit_min hh ht
 have hle := (hitE_zero hh).1
 unfold minHit leastHit at hm
 rw [Bool.and_eq_true, List.all_eq_true] at hm
 obtain ⟨m1, m2⟩ := hm
 have hmeet : ∀ s, validS s = true -> (meetB L s = true ↔ Hit L s) := fun s hs => by
  simp only [meetB, hle, hs, decide_true, Bool.true_and, Bool.not_eq_true', List.any_eq_false, decide_eq_true_eq]
  rfl
 have htv : validS t = true := (hit_fam hh).val t ht
 have hht : Hit L t := (hmeet t htv).1 m1
 have hleast : ∀ i, i < 24 -> bit t i = true -> ¬ Hit L (iandNot .i64 t (Go.Pu.one i)) := fun i hi hb hit => by
  have := m2 i (by simpa using hi)
  rw [hb, (hmeet _ (valid_iandNot htv)).2 hit] at this
  exact absurd this (by decide)
 have htn : inN n t := ⟨htv, fun i hi => by
  cases hb : bit t i with
  | false => rfl
  | true =>
    have hi24 : i < 24 := Nat.lt_of_not_le fun h' => by rw [validS_bit htv h'] at hb; cases hb
    refine absurd (fun u hu hz => hht u hu ?_) (hleast i hi24 hb)
    rw [iand_zero'] at hz ⊢
    intro j hj
    have h3 := hz j hj
    rw [bit_iandNot', one_bit hi24] at h3
    by_cases hij : i = j
    ·subst hij
     rw [(g1.2 u hu).2 i hi]; rfl
    ·simpa [hij] using h3⟩
 have htn' := (inN_iff hn24).1 htn
 have hE : pathSE f t = 0 := by rw [pathSE, if_pos h1, if_pos ⟨htn'.1, by rw [hn, ishl_one]; exact htn'.2⟩]
 refine ⟨?_, hE⟩
 rw [minV, hE, hnn]
 simp only [decide_true, Bool.true_and]
 refine minP_iff.2 ⟨by rw [isP_cut]; exact (hcut t htn).2 hht, fun i hi hb => ?_⟩
 rw [isP_cut]
 cases hpp : valueF f (iandNot .i64 t (Go.Pu.one i)) with
 | false => rfl
 | true => exact absurd ((hcut _ (inN_iandNot hn24 htn)).1 hpp) (hleast i (by omega) hb)
end Go.Proofs.YtocnofkagckhkaaGreatDoor
end
section
namespace Go.Pu
open Go.Sy
variable [Drw]
inductive Tr where
 | nd (v r : Int) (n : Nat) (f : Fin n -> Tr)
def Tr.v : Tr -> Int | .nd v _ _ _ => v
def Tr.r : Tr -> Int | .nd _ r _ _ => r
def Tr.n : Tr -> Nat | .nd _ _ n _ => n
def Tr.no : Tr := .nd 0 0 0 fun i => i.elim0
def Tr.k : Tr -> Nat -> Tr | .nd _ _ n f => fun i => if h : i < n then f ⟨i, h⟩ else .no
def Tr.of (v r : Int) (n : Nat) (g : Nat -> Tr) : Tr := .nd v r n fun i => g i
@[simp] theorem Tr.v_of (v r : Int) (n : Nat) (f : Nat -> Tr) : (Tr.of v r n f).v = v := rfl
@[simp] theorem Tr.r_of (v r : Int) (n : Nat) (f : Nat -> Tr) : (Tr.of v r n f).r = r := rfl
@[simp] theorem Tr.n_of (v r : Int) (n : Nat) (f : Nat -> Tr) : (Tr.of v r n f).n = n := rfl
theorem Tr.k_of {v r : Int} {n : Nat} {f : Nat -> Tr} {i : Nat} (h : i < n) : (Tr.of v r n f).k i = f i := by
 show (if h : i < n then f (⟨i, h⟩ : Fin n) else Tr.no) = f i
 rw [dif_pos h]
theorem Tr.ind {M : Tr -> Prop} (h : ∀ t : Tr, (∀ i, i < t.n -> M (t.k i)) -> M t) (t : Tr) : M t := by
 induction t with
 | nd v r n f ih =>
   refine h _ fun i hi => ?_
   show M (if h : i < n then f ⟨i, h⟩ else Tr.no)
   rw [dif_pos (show i < n from hi)]
   exact ih _
theorem Tr.ext {a : Tr} : ∀ {b : Tr}, a.v = b.v -> a.r = b.r -> a.n = b.n -> (∀ i, i < a.n -> a.k i = b.k i) -> a = b := by
 cases a with
 | nd v r n f =>
   intro b
   cases b with
   | nd v' r' n' f' =>
     intro h1 h2 h3 h4
     obtain rfl : v = v' := h1
     obtain rfl : r = r' := h2
     obtain rfl : n = n' := h3
     congr 1
     funext ⟨i, hi⟩
     have := h4 i hi
     simpa [Tr.k, hi] using this
def Tr.two (v : Int) (a b : Tr) : Tr := .of v 0 2 fun i => match i with
 | 0 => a
 | _ => b
def Tr.lf (r : Int) : Tr := .nd 0 r 0 fun i => i.elim0
@[simp] theorem Tr.v_two (v : Int) (a b : Tr) : (Tr.two v a b).v = v := rfl
@[simp] theorem Tr.r_two (v : Int) (a b : Tr) : (Tr.two v a b).r = 0 := rfl
@[simp] theorem Tr.n_two (v : Int) (a b : Tr) : (Tr.two v a b).n = 2 := rfl
@[simp] theorem Tr.k_two0 (v : Int) (a b : Tr) : (Tr.two v a b).k 0 = a := rfl
@[simp] theorem Tr.k_two1 (v : Int) (a b : Tr) : (Tr.two v a b).k 1 = b := rfl
@[simp] theorem Tr.v_lf (r : Int) : (Tr.lf r).v = 0 := rfl
@[simp] theorem Tr.r_lf (r : Int) : (Tr.lf r).r = r := rfl
@[simp] theorem Tr.n_lf (r : Int) : (Tr.lf r).n = 0 := rfl
@[simp] theorem Tr.v_no : Tr.no.v = 0 := rfl
@[simp] theorem Tr.r_no : Tr.no.r = 0 := rfl
@[simp] theorem Tr.n_no : Tr.no.n = 0 := rfl
def Tr.kf : Tr -> Nat -> Nat -> CV
 | .nd _ _ n f => fun e q => if h : e < n then (match q with
   | 0 => .lit (.int .i64 (f ⟨e, h⟩).v)
   | 1 => .sl (f ⟨e, h⟩).n 3 (f ⟨e, h⟩).kf
   | _ => .lit (.int .i64 (f ⟨e, h⟩).r)) else .lit undef
def Tr.ks (t : Tr) : CV := .sl t.n 3 t.kf
def trC (t : Tr) : List CV := [.lit (.int .i64 t.v), t.ks, .lit (.int .i64 t.r)]
abbrev trV (t : Tr) : EV := .ag (trC t)
def Tr.cell (t : Tr) (q : Nat) : CV := match q with
 | 0 => .lit (.int .i64 t.v)
 | 1 => t.ks
 | _ => .lit (.int .i64 t.r)
@[simp] theorem Tr.cell_0 (t : Tr) : t.cell 0 = .lit (.int .i64 t.v) := rfl
@[simp] theorem Tr.cell_1 (t : Tr) : t.cell 1 = t.ks := rfl
@[simp] theorem Tr.cell_2 (t : Tr) : t.cell 2 = .lit (.int .i64 t.r) := rfl
theorem Tr.kf_eq {t : Tr} {e : Nat} (h : e < t.n) (q : Nat) : t.kf e q = (t.k e).cell q := by
 cases t with
 | nd v r n f =>
   have h' : e < n := h
   have ek : (Tr.nd v r n f).k e = f ⟨e, h'⟩ := by simp [Tr.k, h']
   rw [ek, Tr.kf]
   simp only [h', dif_pos]
   exact match q with | 0 => rfl | 1 => rfl | _ + 2 => rfl
def Tr.ksx (t : Tr) : CV := .sl t.n 3 fun e q => (t.k e).cell q
theorem Tr.ks_x (t : Tr) : CVEq t.ks t.ksx := ⟨rfl, .inr ⟨rfl, fun e q he _ => by rw [Tr.kf_eq he]; exact CVEq.refl _⟩⟩
def trX (t : Tr) : List CV := [.lit (.int .i64 t.v), t.ksx, .lit (.int .i64 t.r)]
def Tr.In : Tr -> Prop
 | .nd v r n f => inK .i64 v /\ inK .i64 r /\ ∀ i, (f i).In
theorem Tr.in_iff (t : Tr) : t.In ↔ inK .i64 t.v /\ inK .i64 t.r /\ ∀ i, i < t.n -> (t.k i).In := by
 cases t with
 | nd v r n f =>
   have e : ∀ i (h : i < n), (Tr.nd v r n f).k i = f ⟨i, h⟩ := fun i h => by simp [Tr.k, h]
   constructor
   ·rintro ⟨h1, h2, h3⟩
    exact ⟨h1, h2, fun i hi => by rw [e i hi]; exact h3 _⟩
   ·rintro ⟨h1, h2, h3⟩
    exact ⟨h1, h2, fun ⟨i, hi⟩ => by have := h3 i hi; rwa [e i hi] at this⟩
end Go.Pu
namespace Go.Sy
open Go.Pu
variable [Drw]
def lenC : CV -> Nat
 | .sl n _ _ => n
 | _ => 0
def unKs : CV -> Nat -> Tr
 | .sl _ _ f => fun e => .of (cvInt (f e 0)) (cvInt (f e 2)) (lenC (f e 1)) (unKs (f e 1))
 | _ => fun _ => .no
def unTr (a : Int) (x : CV) (b : Int) : Tr := .of a b (lenC x) (unKs x)
def isKs (x : CV) : Prop := CVEq x (unTr 0 x 0).ks
theorem unTr_ks (t : Tr) : unTr t.v t.ks t.r = t := by
 induction t using Tr.ind with
 | h t ih =>
   refine Tr.ext rfl rfl rfl fun i hi => ?_
   have hi' : i < t.n := hi
   rw [show unTr t.v t.ks t.r = Tr.of t.v t.r t.n (unKs t.ks) from rfl, Tr.k_of hi']
   have e : unKs t.ks i = unTr (t.k i).v (t.k i).ks (t.k i).r := by
    show Tr.of (cvInt (t.kf i 0)) (cvInt (t.kf i 2)) (lenC (t.kf i 1)) (unKs (t.kf i 1)) = _
    rw [Tr.kf_eq hi', Tr.kf_eq hi', Tr.kf_eq hi']
    rfl
   rw [e]; exact ih i hi'
theorem unTr_n (a b : Int) (t : Tr) : (unTr a t.ks b).ks = t.ks := by
 have h := congrArg Tr.ks (unTr_ks t)
 exact h
@[simp] theorem unTr_cells (t : Tr) : unTr t.v t.ks t.r = t := unTr_ks t
@[simp] theorem isKs_ks (t : Tr) : isKs t.ks := by unfold isKs; rw [unTr_n]; exact CVEq.refl _
theorem tr_eq {a b : Int} {x : CV} (h : isKs x) : EvEq (.ag [.lit (.int .i64 a), x, .lit (.int .i64 b)]) (trV (unTr a x b)) :=
 ⟨rfl, fun q y z hy hz => by
  match q, hy, hz with
  | 0, hy, hz => simp [trC] at hy hz; subst hy; subst hz; exact CVEq.refl _
  | 1, hy, hz => simp [trC] at hy hz; subst hy; subst hz; exact h
  | 2, hy, hz => simp [trC] at hy hz; subst hy; subst hz; exact CVEq.refl _
  | q + 3, hy, hz => simp at hy⟩
def fTI (g : Tr -> Int -> SV) (p : Tr -> Int -> Prop) : List EV -> Option (SV × Prop)
 | [.ag [.lit (.int .i64 a), x, .lit (.int .i64 b)], .c (.lit (.int .i64 s))] => some (g (unTr a x b) s, isKs x /\ p (unTr a x b) s)
 | _ => none
def fTII (g : Tr -> Int -> Int -> SV) (p : Tr -> Int -> Int -> Prop) : List EV -> Option (SV × Prop)
 | [.ag [.lit (.int .i64 a), x, .lit (.int .i64 b)], .c (.lit (.int .i64 s)), .c (.lit (.int .i64 t))] => some (g (unTr a x b) s t, isKs x /\ p (unTr a x b) s t)
 | _ => none
def fTIII (g : Tr -> Int -> Int -> Int -> SV) (p : Tr -> Int -> Int -> Int -> Prop) : List EV -> Option (SV × Prop)
 | [.ag [.lit (.int .i64 a), x, .lit (.int .i64 b)], .c (.lit (.int .i64 s)), .c (.lit (.int .i64 t)), .c (.lit (.int .i64 u))] => some (g (unTr a x b) s t u, isKs x /\ p (unTr a x b) s t u)
 | _ => none
def fTT (g : Tr -> Tr -> SV) (p : Tr -> Tr -> Prop) : List EV -> Option (SV × Prop)
 | [.ag [.lit (.int .i64 a), x, .lit (.int .i64 b)], .ag [.lit (.int .i64 c), y, .lit (.int .i64 d)]] => some (g (unTr a x b) (unTr c y d), isKs x /\ isKs y /\ p (unTr a x b) (unTr c y d))
 | _ => none
section
variable {P : Program} {f : FuncId}
theorem fTI_ok {g : Tr -> Int -> SV} {p : Tr -> Int -> Prop} (h : ∀ x s, p x s -> DoesF P f [trV x, iV s] [] (g x s) []) : ∀ ys y φ, fTI g p ys = some (y, φ) -> φ -> DoesF P f ys [] y [] := by
 intro ys y φ he hφ
 unfold fTI at he
 split at he
 ·simp only [Option.some.injEq, Prod.mk.injEq] at he
  obtain ⟨rfl, rfl⟩ := he
  refine DoesF.conv ?_ (h _ _ hφ.2)
  exact ⟨tr_eq hφ.1, CVEq.refl _, trivial⟩
 ·cases he
theorem fTII_ok {g : Tr -> Int -> Int -> SV} {p : Tr -> Int -> Int -> Prop} (h : ∀ x s t, p x s t -> DoesF P f [trV x, iV s, iV t] [] (g x s t) []) : ∀ ys y φ, fTII g p ys = some (y, φ) -> φ -> DoesF P f ys [] y [] := by
 intro ys y φ he hφ
 unfold fTII at he
 split at he
 ·simp only [Option.some.injEq, Prod.mk.injEq] at he
  obtain ⟨rfl, rfl⟩ := he
  refine DoesF.conv ?_ (h _ _ _ hφ.2)
  exact ⟨tr_eq hφ.1, CVEq.refl _, CVEq.refl _, trivial⟩
 ·cases he
theorem fTIII_ok {g : Tr -> Int -> Int -> Int -> SV} {p : Tr -> Int -> Int -> Int -> Prop} (h : ∀ x s t u, p x s t u -> DoesF P f [trV x, iV s, iV t, iV u] [] (g x s t u) []) : ∀ ys y φ, fTIII g p ys = some (y, φ) -> φ -> DoesF P f ys [] y [] := by
 intro ys y φ he hφ
 unfold fTIII at he
 split at he
 ·simp only [Option.some.injEq, Prod.mk.injEq] at he
  obtain ⟨rfl, rfl⟩ := he
  refine DoesF.conv ?_ (h _ _ _ _ hφ.2)
  exact ⟨tr_eq hφ.1, CVEq.refl _, CVEq.refl _, CVEq.refl _, trivial⟩
 ·cases he
theorem fTT_ok {g : Tr -> Tr -> SV} {p : Tr -> Tr -> Prop} (h : ∀ x s, p x s -> DoesF P f [trV x, trV s] [] (g x s) []) : ∀ ys y φ, fTT g p ys = some (y, φ) -> φ -> DoesF P f ys [] y [] := by
 intro ys y φ he hφ
 unfold fTT at he
 split at he
 ·simp only [Option.some.injEq, Prod.mk.injEq] at he
  obtain ⟨rfl, rfl⟩ := he
  refine DoesF.conv ?_ (h _ _ hφ.2.2)
  exact ⟨tr_eq hφ.1, tr_eq hφ.2.1, trivial⟩
 ·cases he
end
section
variable {P : Program} {A : St} {Q : Exit -> St -> Prop} {k : List K} {e : Exit}
theorem Sat.convG {o : Nat -> Tag} {h : Nat -> Value} {tm : Array Value} {w : World} (hs : Sat o h A tm w) {s : Nat} {xs ys : List CV} (hl : lk A.sl s = some (.e (.ag xs))) (hn : xs.length = ys.length) (he : ∀ (q : Nat) x y, xs[q]? = some x -> ys[q]? = some y -> CVEq x y) :
  Sat o h ⟨A.n, (s, .e (.ag ys)) :: A.sl, A.rs⟩ tm w := by
 refine ⟨hs.size, hs.tags, fun s' x' hl' => ?_, hs.res⟩
 rw [lk_cons] at hl'
 split at hl'
 ·rename_i e; subst e; cases hl'
  obtain ⟨vs, hv, h1, h2⟩ := hs.slot s _ hl
  refine ⟨vs, hv, h1.trans hn, fun q y hq => ?_⟩
  have hlt : q < xs.length := by rw [hn]; exact (List.getElem?_eq_some_iff.1 hq).1
  obtain ⟨u, hu, hr⟩ := h2 q _ (List.getElem?_eq_getElem hlt)
  exact ⟨u, hu, RepV.conv (he q _ y (List.getElem?_eq_getElem hlt) hq) hr⟩
 ·exact hs.slot s' x' hl'
theorem KW.convG (s : Nat) {xs : List CV} (ys : List CV) (hl : lk A.sl s = some (.e (.ag xs))) (hn : xs.length = ys.length) (he : ∀ (q : Nat) x y, xs[q]? = some x -> ys[q]? = some y -> CVEq x y)
  (hk : KW P k e ⟨A.n, (s, .e (.ag ys)) :: A.sl, A.rs⟩ Q) : KW P k e A Q :=
 KW.weaken (fun o h tm w hs => ⟨o, h, hs.convG hl hn he, Ext.refl o w⟩) hk
theorem KW.lenT (s : Nat) (t : Tr) (hl : lk A.sl s = some (.e (trV t))) (hk : t.n ≤ 9223372036854775807 -> KW P k e A Q) : KW P k e A Q := by
 intro o h tm w hs
 obtain ⟨vs, _, _, h2⟩ := hs.slot s _ hl
 obtain ⟨u, _, hr⟩ := h2 1 t.ks rfl
 obtain ⟨a, cap, _, g1, g2, _⟩ := (show RepV o w (.sl t.n 3 t.kf) u from hr)
 exact hk (by simp only [maxLen] at g2; omega) o h tm w hs
theorem Sat.convB {o : Nat -> Tag} {h : Nat -> Value} {tm : Array Value} {w : World} (hs : Sat o h A tm w) {i q T : Nat} {cs : List EV} {bk : Option Nat} {x y : CV} (hi : lk A.rs i = some (.box T cs bk)) (hq : nth cs q = some (.c x)) (he : CVEq x y) :
  Sat o h ⟨A.n, A.sl, (i, .box T (setN cs q (.c y)) bk) :: A.rs⟩ tm w := by
 refine ⟨hs.size, hs.tags, hs.slot, fun j r hl => ?_⟩
 rw [lk_cons] at hl
 split at hl
 ·rename_i e; subst e; cases hl
  obtain ⟨b, vs, h0, h1, h2, h3, h4, h5⟩ := hs.res i _ hi
  rw [nth_eq] at hq
  have hlt : q < cs.length := (List.getElem?_eq_some_iff.1 hq).1
  refine ⟨b, vs, h0, h1, h2, h3, by rw [setN_eq]; simpa using h4, fun p z hp => ?_⟩
  rw [setN_eq, List.getElem?_set] at hp
  split at hp
  ·rename_i e; subst e
   simp only [hlt, if_true, Option.some.injEq] at hp
   subst hp
   obtain ⟨u, hu, hone, hx⟩ := h5 q _ hq
   exact ⟨u, hu, hone, RepV.conv he hx⟩
  ·exact h5 p z hp
 ·exact hs.res j r hl
theorem KW.convB (i q : Nat) {T : Nat} {cs : List EV} {bk : Option Nat} {x : CV} (y : CV) (hi : lk A.rs i = some (.box T cs bk)) (hq : nth cs q = some (.c x)) (he : CVEq x y)
  (hk : KW P k e ⟨A.n, A.sl, (i, .box T (setN cs q (.c y)) bk) :: A.rs⟩ Q) : KW P k e A Q :=
 KW.weaken (fun o h tm w hs => ⟨o, h, hs.convB hi hq he, Ext.refl o w⟩) hk
theorem KW.open (s : Nat) (t : Tr) (hl : lk A.sl s = some (.e (trV t))) (hk : KW P k e ⟨A.n, (s, .e (.ag (trX t))) :: A.sl, A.rs⟩ Q) : KW P k e A Q :=
 KW.convG s (trX t) hl rfl (fun q x y hx hy => by
  match q, hx, hy with
  | 0, hx, hy => simp [trC, trX] at hx hy; subst hx; subst hy; exact CVEq.refl _
  | 1, hx, hy => simp [trC, trX] at hx hy; subst hx; subst hy; exact t.ks_x
  | 2, hx, hy => simp [trC, trX] at hx hy; subst hx; subst hy; exact CVEq.refl _
  | q + 3, hx, hy => simp [trC] at hx) hk
theorem KW.tree (s : Nat) (t : Tr) {x : CV} (hl : lk A.sl s = some (.e (.ag [.lit (.int .i64 t.v), x, .lit (.int .i64 t.r)]))) (hx : CVEq x t.ks) (hk : KW P k e ⟨A.n, (s, .e (trV t)) :: A.sl, A.rs⟩ Q) : KW P k e A Q :=
 KW.convG s (trC t) hl rfl (fun q y z hy hz => by
  match q, hy, hz with
  | 0, hy, hz => simp [trC] at hy hz; subst hy; subst hz; exact CVEq.refl _
  | 1, hy, hz => simp [trC] at hy hz; subst hy; subst hz; exact hx
  | 2, hy, hz => simp [trC] at hy hz; subst hy; subst hz; exact CVEq.refl _
  | q + 3, hy, hz => simp at hy) hk
end
end Go.Sy
end
section
namespace Go.Pu
open Go.Sy
variable [Drw]
def Tr.bin {α : Type} (L : Tr -> α) (N : Tr -> α -> α -> α) : Tr -> α
 | .nd v r n f => if h : n = 2 then N (.nd v r n f) (Tr.bin L N (f ⟨0, by omega⟩)) (Tr.bin L N (f ⟨1, by omega⟩)) else L (.nd v r n f)
theorem Tr.bin_eq {α : Type} (L : Tr -> α) (N : Tr -> α -> α -> α) (t : Tr) : Tr.bin L N t = if t.n = 2 then N t (Tr.bin L N (t.k 0)) (Tr.bin L N (t.k 1)) else L t := by
 cases t with
 | nd v r n f =>
   rw [Tr.bin]
   by_cases h : n = 2
   ·subst h; rfl
   ·rw [dif_neg h]; exact (if_neg (show ¬ (Tr.nd v r n f).n = 2 from h)).symm
def bitB (a v : Int) : Bool := iand .i64 (ishr a v) 1 == 1
def chkTN (vars : Int) (t : Tr) (x y : Int -> Int -> Int × Int) (a c : Int) : Int × Int :=
 if 4096 < c + 1 then (c + 1, 4) else if t.v < 0 ∨ vars ≤ t.v then (c + 1, 3) else if bitB a t.v = true then (c + 1, 6) else if t.r ≠ 0 then (c + 1, 2)
 else if (x (ior .i64 a (ishl 1 t.v)) (c + 1)).2 ≠ 0 then x (ior .i64 a (ishl 1 t.v)) (c + 1) else y (ior .i64 a (ishl 1 t.v)) (x (ior .i64 a (ishl 1 t.v)) (c + 1)).1
def chkTL (t : Tr) (a c : Int) : Int × Int := (c + 1, if 4096 < c + 1 then 4 else if t.n ≠ 0 then 11 else if t.v ≠ 0 then 2 else 0)
def chkT (vars : Int) : Tr -> Int -> Int -> Int × Int := Tr.bin chkTL (chkTN vars)
theorem chkT_eq (vars : Int) (t : Tr) : chkT vars t = if t.n = 2 then chkTN vars t (chkT vars (t.k 0)) (chkT vars (t.k 1)) else chkTL t := Tr.bin_eq _ _ t
def splE (t : Tr) (vars : Int) : Int := if vars < 0 ∨ 24 < vars then 3 else (chkT vars t 0 0).2
def okT (vars : Int) : Tr -> Int -> Prop := Tr.bin (fun t _ => t.n = 0 /\ t.v = 0) fun t x y a => 0 ≤ t.v /\ t.v < vars /\ bitB a t.v = false /\ t.r = 0 /\ x (ior .i64 a (ishl 1 t.v)) /\ y (ior .i64 a (ishl 1 t.v))
theorem okT_eq (vars : Int) (t : Tr) (a : Int) : okT vars t a ↔ if t.n = 2 then 0 ≤ t.v /\ t.v < vars /\ bitB a t.v = false /\ t.r = 0 /\ okT vars (t.k 0) (ior .i64 a (ishl 1 t.v)) /\ okT vars (t.k 1) (ior .i64 a (ishl 1 t.v)) else t.n = 0 /\ t.v = 0 := by
 unfold okT
 rw [Tr.bin_eq]
 split <;> rfl
def cntN : Tr -> Int := Tr.bin (fun _ => 1) fun _ x y => x + y + 1
theorem cntN_eq (t : Tr) : cntN t = if t.n = 2 then cntN (t.k 0) + cntN (t.k 1) + 1 else 1 := Tr.bin_eq _ _ t
theorem cntN_pos (t : Tr) : 1 ≤ cntN t := by
 induction t using Tr.ind with
 | h t ih =>
   rw [cntN_eq]
   split
   ·rename_i h; have := ih 0 (by omega); have := ih 1 (by omega); omega
   ·omega
theorem chkT_lt (vars : Int) (t : Tr) : ∀ a c : Int, c ≤ 4096 -> c + 1 ≤ (chkT vars t a c).1 /\ (chkT vars t a c).1 ≤ 4097 /\ ((chkT vars t a c).2 = 0 -> (chkT vars t a c).1 ≤ 4096) := by
 induction t using Tr.ind with
 | h t ih =>
   intro a c hc
   rw [chkT_eq]
   split
   ·rename_i h
    unfold chkTN
    have h0 := ih 0 (by omega) (ior .i64 a (ishl 1 t.v)) (c + 1)
    generalize chkT vars (t.k 0) (ior .i64 a (ishl 1 t.v)) (c + 1) = X at *
    have h1 := ih 1 (by omega) (ior .i64 a (ishl 1 t.v)) X.1
    generalize chkT vars (t.k 1) (ior .i64 a (ishl 1 t.v)) X.1 = Y at *
    split
    ·exact ⟨by simp only; omega, by simp only; omega, fun h => by simp at h⟩
    split
    ·exact ⟨by simp only; omega, by simp only; omega, fun h => by simp at h⟩
    split
    ·exact ⟨by simp only; omega, by simp only; omega, fun h => by simp at h⟩
    split
    ·exact ⟨by simp only; omega, by simp only; omega, fun h => by simp at h⟩
    have h0 := h0 (by omega)
    split
    ·rename_i hx; exact ⟨by omega, h0.2.1, fun h => absurd h hx⟩
    ·rename_i hx
     have h1 := h1 (h0.2.2 (by omega))
     exact ⟨by omega, h1.2⟩
   ·unfold chkTL
    refine ⟨by simp only; omega, by simp only; omega, fun h => ?_⟩
    simp only at h ⊢
    split at h
    ·cases h
    ·omega
theorem chkT_ok (vars : Int) (t : Tr) : ∀ a c : Int, (chkT vars t a c).2 = 0 -> c ≤ 4096 -> okT vars t a /\ (chkT vars t a c).1 = c + cntN t := by
 induction t using Tr.ind with
 | h t ih =>
   intro a c
   rw [chkT_eq, okT_eq, cntN_eq]
   by_cases h : t.n = 2
   ·rw [if_pos h, if_pos h, if_pos h]
    unfold chkTN
    have h0 := ih 0 (by omega) (ior .i64 a (ishl 1 t.v)) (c + 1)
    have l0 := chkT_lt vars (t.k 0) (ior .i64 a (ishl 1 t.v)) (c + 1)
    generalize chkT vars (t.k 0) (ior .i64 a (ishl 1 t.v)) (c + 1) = X at *
    have h1 := ih 1 (by omega) (ior .i64 a (ishl 1 t.v)) X.1
    generalize chkT vars (t.k 1) (ior .i64 a (ishl 1 t.v)) X.1 = Y at *
    split
    ·intro h; simp at h
    split
    ·intro h; simp at h
    split
    ·intro h; simp at h
    split
    ·intro h; simp at h
    split
    ·rename_i hx; intro h; exact absurd h hx
    ·rename_i g1 g2 g3 g4 hx
     intro hy hc
     have l0 := l0 (by omega)
     have h0 := h0 (by omega) (by omega)
     have h1 := h1 hy (l0.2.2 (by omega))
     refine ⟨⟨by omega, by omega, by simpa using g3, by omega, h0.1, h1.1⟩, by omega⟩
   ·rw [if_neg h, if_neg h, if_neg h]
    unfold chkTL
    simp only
    intro h1 hc
    refine ⟨?_, trivial⟩
    split at h1
    ·cases h1
    split at h1
    ·cases h1
    split at h1
    ·cases h1
    ·omega
theorem chkT_of (vars : Int) (t : Tr) : ∀ a c : Int, okT vars t a -> c + cntN t ≤ 4096 -> chkT vars t a c = (c + cntN t, 0) := by
 induction t using Tr.ind with
 | h t ih =>
   intro a c
   rw [chkT_eq, okT_eq, cntN_eq]
   by_cases h : t.n = 2
   ·rw [if_pos h, if_pos h, if_pos h]
    rintro ⟨g1, g2, g3, g4, g5, g6⟩ hc
    have p0 := cntN_pos (t.k 0)
    have p1 := cntN_pos (t.k 1)
    unfold chkTN
    rw [if_neg (by omega), if_neg (by omega), if_neg (by rw [g3]; decide), if_neg (by omega), ih 0 (by omega) _ _ g5 (by omega)]
    simp only
    rw [if_neg (by omega), ih 1 (by omega) _ _ g6 (by omega)]
    congr 1; omega
   ·rw [if_neg h, if_neg h, if_neg h]
    rintro ⟨g1, g2⟩ hc
    unfold chkTL
    rw [if_neg (by omega), if_neg (by omega), if_neg (by omega)]
theorem splE_ok {t : Tr} {vars : Int} (h : splE t vars = 0) : 0 ≤ vars /\ vars ≤ 24 /\ okT vars t 0 /\ cntN t ≤ 4096 := by
 unfold splE at h
 split at h
 ·cases h
 ·have := chkT_ok vars t 0 0 h (by omega)
  have := (chkT_lt vars t 0 0 (by omega)).2.2 h
  exact ⟨by omega, by omega, (chkT_ok vars t 0 0 h (by omega)).1, by omega⟩
theorem splE_of {t : Tr} {vars : Int} (h0 : 0 ≤ vars) (h1 : vars ≤ 24) (h2 : okT vars t 0) (h3 : cntN t ≤ 4096) : splE t vars = 0 := by
 unfold splE
 rw [if_neg (by omega), chkT_of vars t 0 0 h2 (by omega)]
structure LeafP where
 yes : Int
 no : Int
 reason : Int
 deriving DecidableEq
def leaf0 : LeafP := ⟨0, 0, 0⟩
def leafC (x : LeafP) (q : Nat) : CV := match q with
 | 0 => .lit (.int .i64 x.yes)
 | 1 => .lit (.int .i64 x.no)
 | _ => .lit (.int .i64 x.reason)
def leafL (x : LeafP) : List CV := [.lit (.int .i64 x.yes), .lit (.int .i64 x.no), .lit (.int .i64 x.reason)]
def lvs : Tr -> Int -> Int -> List LeafP := Tr.bin (fun t yes no => [⟨yes, no, t.r⟩]) fun t x y yes no => x yes (ior .i64 no (ishl 1 t.v)) ++ y (ior .i64 yes (ishl 1 t.v)) no
theorem lvs_eq (t : Tr) (yes no : Int) : lvs t yes no = if t.n = 2 then lvs (t.k 0) yes (ior .i64 no (ishl 1 t.v)) ++ lvs (t.k 1) (ior .i64 yes (ishl 1 t.v)) no else [⟨yes, no, t.r⟩] := by
 unfold lvs; rw [Tr.bin_eq]; split <;> rfl
def szT : Tr -> Int × Int × Int := Tr.bin (fun _ => (1, 1, 0)) fun _ x y => (x.1 + y.1 + 1, x.2.1 + y.2.1, max x.2.2 y.2.2 + 1)
theorem szT_eq (t : Tr) : szT t = if t.n = 2 then ((szT (t.k 0)).1 + (szT (t.k 1)).1 + 1, (szT (t.k 0)).2.1 + (szT (t.k 1)).2.1, max (szT (t.k 0)).2.2 (szT (t.k 1)).2.2 + 1) else (1, 1, 0) := Tr.bin_eq _ _ t
theorem szT_rng (t : Tr) : (szT t).1 = cntN t /\ 1 ≤ (szT t).2.1 /\ (szT t).2.1 ≤ cntN t /\ 0 ≤ (szT t).2.2 /\ (szT t).2.2 < cntN t := by
 induction t using Tr.ind with
 | h t ih =>
   rw [szT_eq, cntN_eq]
   split
   ·rename_i h
    have := ih 0 (by omega); have := ih 1 (by omega)
    refine ⟨by simp only; omega, by simp only; omega, by simp only; omega, by simp only; omega, by simp only; omega⟩
   ·simp
def fwL (g : Nat -> Int -> Int) (m : Int) : Nat -> Int
 | 0 => m
 | i + 1 => if fwL g m i < 0 then -1 else g i (fwL g m i)
def leftT : Tr -> Int -> Int -> Int
 | .nd v r n f => fun most depth => if 100 < depth ∨ 10 < n then -1 else fwL (fun i m => if h : i < n then leftT (f ⟨i, h⟩) m (depth + 1) else m) (most - 1) n
theorem fwL_congr {g g' : Nat -> Int -> Int} (m : Int) : ∀ i : Nat, (∀ j, j < i -> ∀ m, g j m = g' j m) -> fwL g m i = fwL g' m i
 | 0, _ => rfl
 | i + 1, h => by rw [fwL, fwL, fwL_congr m i fun j hj => h j (by omega), h i (by omega)]
theorem leftT_eq (t : Tr) (most depth : Int) : leftT t most depth = if 100 < depth ∨ 10 < t.n then -1 else fwL (fun i m => leftT (t.k i) m (depth + 1)) (most - 1) t.n := by
 cases t with
 | nd v r n f =>
   rw [leftT]
   show (if 100 < depth ∨ 10 < n then (-1 : Int) else _) = if 100 < depth ∨ 10 < n then (-1 : Int) else _
   split
   ·rfl
   ·refine fwL_congr _ _ fun j hj m => ?_
    rw [dif_pos hj]
    show _ = leftT (if h : j < n then f ⟨j, h⟩ else Tr.no) m (depth + 1)
    rw [dif_pos hj]
theorem fwL_rng {g : Nat -> Int -> Int} {m : Int} : ∀ {n : Nat}, (∀ i, i < n -> ∀ m', 0 ≤ m' -> -1 ≤ g i m' /\ g i m' < m') -> -1 ≤ m -> -1 ≤ fwL g m n /\ fwL g m n ≤ m
 | 0, _, hm => ⟨by rw [fwL]; omega, by rw [fwL]; omega⟩
 | n + 1, h, hm => by
   have ih := fwL_rng (g := g) (m := m) (n := n) (fun i hi => h i (by omega)) hm
   rw [fwL]
   split
   ·omega
   ·have := h n (by omega) (fwL g m n) (by omega)
    omega
theorem fwL_neg {g : Nat -> Int -> Int} {m : Int} {q : Nat} (h : fwL g m q < 0) : ∀ {n : Nat}, q < n -> fwL g m n = -1
 | 0, hq => absurd hq (Nat.not_lt_zero _)
 | n + 1, hq => by
   rw [fwL]
   by_cases e : q = n
   ·subst e; rw [if_pos h]
   ·rw [fwL_neg h (n := n) (by omega), if_pos (by decide)]
theorem leftT_rng (t : Tr) : ∀ m d : Int, 0 ≤ m -> -1 ≤ leftT t m d /\ leftT t m d < m := by
 induction t using Tr.ind with
 | h t ih =>
   intro m d hm
   rw [leftT_eq]
   split
   ·omega
   ·have := fwL_rng (g := fun i m => leftT (t.k i) m (d + 1)) (m := m - 1) (n := t.n) (fun i hi m' hm' => ih i hi m' (d + 1) hm') (by omega)
    omega
def fwB (t : Tr) (most : Int) : Bool := decide (0 ≤ leftT t most 0)
end Go.Pu
end
section
namespace Go.Pu
open Go.Sy
variable [Drw]
theorem bitB_bit (s : Int) {v : Int} (h0 : 0 ≤ v) (h1 : v < 24) : bitB s v = bit s v.toNat := by
 obtain ⟨n, rfl⟩ := Int.eq_ofNat_of_zero_le h0
 have hn : n < 24 := by omega
 rw [<-hasB_nat s (i := (n : Int).toNat) (by simpa using hn)]
 unfold hasB bitB
 have h2 : decide ((0 : Int) ≤ (n : Int)) = true := decide_eq_true h0
 have h3 : decide ((n : Int) < 24) = true := decide_eq_true h1
 simp only [Int.toNat_natCast, h2, h3, Bool.true_and]
theorem bit_shl {v : Int} (h0 : 0 ≤ v) (h1 : v < 24) (j : Nat) : bit (ishl 1 v) j = decide (v.toNat = j) := by
 obtain ⟨n, rfl⟩ := Int.eq_ofNat_of_zero_le h0
 have e : (ishl 1 (n : Int)) = one n := rfl
 rw [e, one_bit (by omega)]; simp
theorem shl_rng24 {v : Int} (h0 : 0 ≤ v) (h1 : v < 24) : 1 ≤ ishl 1 v /\ ishl 1 v ≤ 8388608 := by
 obtain ⟨n, rfl⟩ := Int.eq_ofNat_of_zero_le h0
 exact (by decide +kernel : ∀ n : Fin 24, 1 ≤ ishl 1 ((n.val : Nat) : Int) /\ ishl 1 ((n.val : Nat) : Int) ≤ 8388608) ⟨n, by omega⟩
theorem not_zero {a b : Int} : iandNot .i64 a b = 0 ↔ ∀ i, i < 64 -> bit a i = true -> bit b i = true := by
 rw [eq_zero_iff (by simp)]
 refine forall_congr' fun i => forall_congr' fun _ => ?_
 rw [bit_iandNot']
 cases bit a i <;> cases bit b i <;> simp
def gT : Tr -> Prop := Tr.bin (fun t => t.n = 0 /\ t.v = 0) fun t x y => 0 ≤ t.v /\ t.v < 24 /\ t.r = 0 /\ x /\ y
theorem gT_eq (t : Tr) : gT t ↔ if t.n = 2 then 0 ≤ t.v /\ t.v < 24 /\ t.r = 0 /\ gT (t.k 0) /\ gT (t.k 1) else t.n = 0 /\ t.v = 0 := by
 unfold gT; rw [Tr.bin_eq]
theorem okT_gT {vars : Int} (hv : vars ≤ 24) {t : Tr} : ∀ {a : Int}, okT vars t a -> gT t := by
 induction t using Tr.ind with
 | h t ih =>
   intro a
   rw [okT_eq, gT_eq]
   split
   ·rename_i h
    rintro ⟨g1, g2, g3, g4, g5, g6⟩
    exact ⟨g1, by omega, g4, ih 0 (by omega) g5, ih 1 (by omega) g6⟩
   ·exact id
theorem okT_le {vars : Int} (hv : vars ≤ 24) {t : Tr} : ∀ {a a' : Int}, (∀ i, bit a' i = true -> bit a i = true) -> okT vars t a -> okT vars t a' := by
 induction t using Tr.ind with
 | h t ih =>
   intro a a' hp
   rw [okT_eq vars t a, okT_eq vars t a']
   split
   ·rename_i h
    rintro ⟨g1, g2, g3, g4, g5, g6⟩
    have hp' : ∀ i, bit (ior .i64 a' (ishl 1 t.v)) i = true -> bit (ior .i64 a (ishl 1 t.v)) i = true := fun i => by
     rw [bit_ior, bit_ior, Bool.or_eq_true, Bool.or_eq_true]
     exact Or.imp (hp i) id
    refine ⟨g1, g2, ?_, g4, ih 0 (by omega) hp' g5, ih 1 (by omega) hp' g6⟩
    rw [bitB_bit _ g1 (by omega)] at g3 ⊢
    cases hb : bit a' t.v.toNat with
    | false => rfl
    | true => rw [hp _ hb] at g3; cases g3
   ·exact id
def inC (yes no s : Int) : Prop := (∀ i, i < 64 -> bit yes i = true -> bit s i = true) /\ ∀ i, i < 64 -> bit no i = true -> bit s i = false
def leafIn (l : LeafP) (s : Int) : Bool := (iandNot .i64 l.yes s == 0) && (iand .i64 l.no s == 0)
theorem leafIn_iff (l : LeafP) (s : Int) : leafIn l s = true ↔ inC l.yes l.no s := by
 unfold leafIn inC
 rw [Bool.and_eq_true, beq_iff_eq, beq_iff_eq, not_zero, iand_zero]
theorem inC_zero (s : Int) : inC 0 0 s := ⟨fun i _ h => by simp at h, fun i _ h => by simp at h⟩
theorem inC_yes {yes no s v : Int} (h0 : 0 ≤ v) (h1 : v < 24) : inC (ior .i64 yes (ishl 1 v)) no s ↔ inC yes no s /\ bit s v.toNat = true := by
 unfold inC
 constructor
 ·rintro ⟨h2, h3⟩
  refine ⟨⟨fun i hi hb => h2 i hi (by rw [bit_ior, hb]; rfl), h3⟩, h2 v.toNat (by omega) ?_⟩
  rw [bit_ior, bit_shl h0 h1]; simp
 ·rintro ⟨⟨h2, h3⟩, h4⟩
  refine ⟨fun i hi hb => ?_, h3⟩
  rw [bit_ior, bit_shl h0 h1, Bool.or_eq_true, decide_eq_true_iff] at hb
  rcases hb with hb | rfl
  ·exact h2 i hi hb
  ·exact h4
theorem inC_no {yes no s v : Int} (h0 : 0 ≤ v) (h1 : v < 24) : inC yes (ior .i64 no (ishl 1 v)) s ↔ inC yes no s /\ bit s v.toNat = false := by
 unfold inC
 constructor
 ·rintro ⟨h2, h3⟩
  refine ⟨⟨h2, fun i hi hb => h3 i hi (by rw [bit_ior, hb]; rfl)⟩, h3 v.toNat (by omega) ?_⟩
  rw [bit_ior, bit_shl h0 h1]; simp
 ·rintro ⟨⟨h2, h3⟩, h4⟩
  refine ⟨h2, fun i hi hb => ?_⟩
  rw [bit_ior, bit_shl h0 h1, Bool.or_eq_true, decide_eq_true_iff] at hb
  rcases hb with hb | rfl
  ·exact h3 i hi hb
  ·exact h4
def atT (s : Int) : Tr -> Int -> Int -> LeafP := Tr.bin (fun t yes no => ⟨yes, no, t.r⟩) fun t x y yes no => if bitB s t.v = true then y (ior .i64 yes (ishl 1 t.v)) no else x yes (ior .i64 no (ishl 1 t.v))
theorem atT_eq (s : Int) (t : Tr) (yes no : Int) : atT s t yes no = if t.n = 2 then (if bitB s t.v = true then atT s (t.k 1) (ior .i64 yes (ishl 1 t.v)) no else atT s (t.k 0) yes (ior .i64 no (ishl 1 t.v))) else ⟨yes, no, t.r⟩ := by
 unfold atT; rw [Tr.bin_eq]; split <;> rfl
theorem okT_two (vars v : Int) (x y : Tr) (a : Int) : okT vars (Tr.two v x y) a ↔ 0 ≤ v /\ v < vars /\ bitB a v = false /\ okT vars x (ior .i64 a (ishl 1 v)) /\ okT vars y (ior .i64 a (ishl 1 v)) := by
 refine (okT_eq vars (Tr.two v x y) a).trans ?_
 rw [if_pos (show (Tr.two v x y).n = 2 from rfl)]
 exact ⟨fun ⟨h1, h2, h3, _, h5⟩ => ⟨h1, h2, h3, h5⟩, fun ⟨h1, h2, h3, h5⟩ => ⟨h1, h2, h3, rfl, h5⟩⟩
theorem okT_lf (vars r a : Int) : okT vars (Tr.lf r) a := (okT_eq vars (Tr.lf r) a).2 (by rw [if_neg (by simp)]; exact ⟨rfl, rfl⟩)
theorem cntN_two (v : Int) (x y : Tr) : cntN (Tr.two v x y) = cntN x + cntN y + 1 := cntN_eq (Tr.two v x y)
theorem cntN_lf (r : Int) : cntN (Tr.lf r) = 1 := cntN_eq (Tr.lf r)
open Classical in
theorem lvs_filter (s : Int) (t : Tr) : gT t -> ∀ yes no, (lvs t yes no).filter (fun l => leafIn l s) = if inC yes no s then [atT s t yes no] else [] := by
 induction t using Tr.ind with
 | h t ih =>
   rw [gT_eq]
   intro hg yes no
   rw [lvs_eq, atT_eq]
   split
   ·rename_i h
    rw [if_pos h] at hg
    obtain ⟨g1, g2, g3, g4, g5⟩ := hg
    rw [List.filter_append, ih 0 (by omega) g4, ih 1 (by omega) g5]
    rw [bitB_bit s g1 g2]
    cases hb : bit s t.v.toNat with
    | true =>
      rw [if_neg (by rw [inC_no g1 g2, hb]; simp)]
      simp only [inC_yes g1 g2, hb, and_true, List.nil_append, if_true]
    | false =>
      simp only [inC_yes g1 g2, inC_no g1 g2, hb, and_true, Bool.false_eq_true, and_false, if_false, List.append_nil]
   ·simp only [List.filter_cons, List.filter_nil]
    by_cases hc : inC yes no s
    ·rw [if_pos hc, if_pos ((leafIn_iff ⟨yes, no, t.r⟩ s).2 hc)]
    ·rw [if_neg hc, if_neg]
     intro h; exact hc ((leafIn_iff ⟨yes, no, t.r⟩ s).1 h)
theorem atT_mem {t : Tr} (ht : gT t) (s : Int) : atT s t 0 0 ∈ lvs t 0 0 /\ leafIn (atT s t 0 0) s = true := by
 have h := lvs_filter s t ht 0 0
 rw [if_pos (inC_zero s)] at h
 have : atT s t 0 0 ∈ (lvs t 0 0).filter (fun l => leafIn l s) := by rw [h]; exact .head _
 rw [List.mem_filter] at this
 exact this
theorem lvs_len (t : Tr) : ∀ yes no : Int, ((lvs t yes no).length : Int) = (szT t).2.1 := by
 induction t using Tr.ind with
 | h t ih =>
   intro yes no
   rw [lvs_eq, szT_eq]
   split
   ·rename_i h
    simp only [List.length_append]
    have := ih 0 (by omega) yes (ior .i64 no (ishl 1 t.v))
    have := ih 1 (by omega) (ior .i64 yes (ishl 1 t.v)) no
    omega
   ·rfl
end Go.Pu
end
section
namespace Go.Proofs.YtocnofkagckhkaaGreatDoor
open Go.Sy Go.Pu
variable [Drw]
def firstB (p : Nat -> Bool) (n : Nat) : Option Nat := (List.range n).find? p
theorem firstB_none {p : Nat -> Bool} {n : Nat} : firstB p n = none ↔ ∀ i, i < n -> p i = false := by
 unfold firstB
 rw [List.find?_eq_none]
 simp
theorem firstB_succ (p : Nat -> Bool) (n : Nat) : firstB p (n + 1) = (firstB p n).or (if p n then some n else none) := by
 unfold firstB
 rw [List.range_succ, List.find?_append]
 congr 1
 simp [List.find?_cons]
 cases p n <;> rfl
theorem firstB_some {p : Nat -> Bool} {n q : Nat} (hq : q < n) (hp : p q = true) (hl : ∀ i, i < q -> p i = false) : firstB p n = some q := by
 induction n with
 | zero => omega
 | succ n ih =>
   rw [firstB_succ]
   by_cases h : q < n
   ·rw [ih h]; rfl
   ·obtain rfl : q = n := by omega
    rw [firstB_none.2 hl, if_pos hp]; rfl
theorem firstB_spec {p : Nat -> Bool} {n q : Nat} (h : firstB p n = some q) : q < n /\ p q = true /\ ∀ i, i < q -> p i = false := by
 have h1 := List.find?_some h
 have h2 := List.mem_of_find?_eq_some h
 rw [List.mem_range] at h2
 refine ⟨h2, h1, fun i hi => ?_⟩
 cases hb : p i with
 | false => rfl
 | true =>
   exfalso
   have hex : ∃ j, j ≤ i /\ p j = true /\ ∀ k, k < j -> p k = false := by
    induction i using Nat.strongRecOn with
    | _ i ih =>
      by_cases hk : ∃ k, k < i /\ p k = true
      ·obtain ⟨k, hk1, hk2⟩ := hk
       obtain ⟨j, j1, j2, j3⟩ := ih k hk1 (by omega) hk2
       exact ⟨j, by omega, j2, j3⟩
      ·exact ⟨i, Nat.le_refl _, hb, fun k hk' => by
        cases hpk : p k with
        | false => rfl
        | true => exact absurd ⟨k, hk', hpk⟩ hk⟩
   obtain ⟨j, j1, j2, j3⟩ := hex
   have := firstB_some (n := n) (by omega) j2 j3
   rw [h] at this
   cases this
   omega
def setE (vars : Int) (l : List Int) : Int := if 1024 < l.length then 4 else if l.all (fun s => decide (0 ≤ s) && decide (s < ishl 1 vars)) = true then 0 else 3
structure CovP where
 cuts : List Int
 paths : List Int
 tree : Tr
def covE (f : FormP) (c : CovP) : Int := if pathE f = 0 then if setE f.vars c.cuts = 0 then if setE f.vars c.paths = 0 then splE c.tree f.vars else setE f.vars c.paths else setE f.vars c.cuts else pathE f
def showsB (cuts paths : List Int) (l : LeafP) : Bool :=
 if 0 ≤ l.reason then decide (l.reason < cuts.length) && (iandNot .i64 (cuts.getD l.reason.toNat 0) l.yes == 0)
 else decide (-1 - l.reason < paths.length) && (iandNot .i64 (paths.getD (-1 - l.reason).toNat 0) l.no == 0)
def bad1 (f : FormP) (c : CovP) (i : Nat) : Bool := !isP f (c.cuts.getD i 0) false
def bad2 (f : FormP) (c : CovP) (i : Nat) : Bool := !(minP f (c.cuts.getD i 0) false f.vars.toNat && !((c.cuts.take i).contains (c.cuts.getD i 0)))
def bad3 (f : FormP) (c : CovP) (i : Nat) : Bool := !isP f (c.paths.getD i 0) true
def bad4 (c : CovP) (i : Nat) : Bool := !showsB c.cuts c.paths ((lvs c.tree 0 0).getD i leaf0)
def faultV (f : FormP) (c : CovP) : Int × Int :=
 match firstB (bad1 f c) c.cuts.length with
 | some i => (1, i)
 | none => match firstB (bad2 f c) c.cuts.length with
   | some i => (2, i)
   | none => match firstB (bad3 f c) c.paths.length with
     | some i => (3, i)
     | none => match firstB (bad4 c) (lvs c.tree 0 0).length with
       | some i => (4, i)
       | none => (0, 0)
theorem fault_zero {f : FormP} {c : CovP} : (faultV f c).1 = 0 ↔ (∀ i, i < c.cuts.length -> bad1 f c i = false) /\ (∀ i, i < c.cuts.length -> bad2 f c i = false) /\ (∀ i, i < c.paths.length -> bad3 f c i = false) /\ ∀ i, i < (lvs c.tree 0 0).length -> bad4 c i = false := by
 unfold faultV
 rw [<-firstB_none, <-firstB_none, <-firstB_none, <-firstB_none]
 cases h1 : firstB (bad1 f c) c.cuts.length with
 | some i => simp
 | none =>
 cases h2 : firstB (bad2 f c) c.cuts.length with
 | some i => simp
 | none =>
 cases h3 : firstB (bad3 f c) c.paths.length with
 | some i => simp
 | none =>
 cases h4 : firstB (bad4 c) (lvs c.tree 0 0).length with
 | some i => simp
 | none => simp
theorem fault_zero' {f : FormP} {c : CovP} (h : (faultV f c).1 = 0) : faultV f c = (0, 0) := by
 obtain ⟨h1, h2, h3, h4⟩ := fault_zero.1 h
 unfold faultV
 rw [firstB_none.2 h1, firstB_none.2 h2, firstB_none.2 h3, firstB_none.2 h4]
theorem setE_zero {n : Nat} (hn : n ≤ 24) {l : List Int} (h : setE n l = 0) : l.length ≤ 1024 /\ ∀ s ∈ l, inN n s := by
 unfold setE at h
 split at h
 ·cases h
 split at h
 ·rename_i h1 h2
  refine ⟨by omega, fun s hs => (inN_iff hn).2 ?_⟩
  have := List.all_eq_true.1 h2 s hs
  rw [Bool.and_eq_true, decide_eq_true_iff, decide_eq_true_iff, ishl_one] at this
  exact this
 ·cases h
theorem setE_of {n : Nat} (hn : n ≤ 24) {l : List Int} (h0 : l.length ≤ 1024) (h1 : ∀ s ∈ l, inN n s) : setE n l = 0 := by
 unfold setE
 rw [if_neg (by omega), if_pos]
 rw [List.all_eq_true]
 intro s hs
 have := (inN_iff hn).1 (h1 s hs)
 rw [Bool.and_eq_true, decide_eq_true_iff, decide_eq_true_iff, ishl_one]
 exact this
theorem covE_zero {f : FormP} {c : CovP} (h : covE f c = 0) : pathE f = 0 /\ setE f.vars c.cuts = 0 /\ setE f.vars c.paths = 0 /\ splE c.tree f.vars = 0 := by
 unfold covE at h
 split at h
 ·rename_i h1
  split at h
  ·rename_i h2
   split at h
   ·rename_i h3; exact ⟨h1, h2, h3, h⟩
   ·rename_i h3; exact absurd h h3
  ·rename_i h2; exact absurd h h2
 ·rename_i h1; exact absurd h h1
theorem pathSE_in {f : FormP} {n : Nat} (h1 : pathE f = 0) (hn : f.vars = n) (hn24 : n ≤ 24) {s : Int} (hs : inN n s) : pathSE f s = 0 := by
 have := (inN_iff hn24).1 hs
 rw [pathSE, if_pos h1, if_pos ⟨this.1, by rw [hn, ishl_one]; exact this.2⟩]
theorem nz_part {a b : Int} (ha : validS a = true) : iandNot .i64 a b = 0 ↔ Part a b := by
 rw [not_zero]
 refine ⟨fun h i hi => h i (Nat.lt_of_not_le fun h' => by rw [validS_bit ha (by omega)] at hi; cases hi) hi, fun h i _ hi => h i hi⟩
theorem min_eq {f : FormP} {n : Nat} (ok : FormOk f) (hc : cohF f = true) (hn : f.vars = n) {x s : Int} {b : Bool} (hx : inN n x) (hs : inN n s) (h1 : minP f s b n = true) (h2 : isP f x b = true) (hp : Part x s) : x = s := by
 have hv := ok.vars
 have hn24 : n ≤ 24 := by omega
 obtain ⟨m1, m2⟩ := minP_iff.1 h1
 refine inN.ext hx hs fun i hi => ?_
 cases hb : bit s i with
 | false =>
   cases hbx : bit x i with
   | false => rfl
   | true => rw [hp i hbx] at hb; cases hb
 | true =>
   cases hbx : bit x i with
   | true => rfl
   | false =>
     exfalso
     have h3 := m2 i hi hb
     have h4 := isP_mono ok hc hn b x (iandNot .i64 s (Go.Pu.one i)) hx (inN_iandNot hn24 hs) (fun j hj => by
      rw [bit_iandNot', hp j hj, one_bit (by omega)]
      have : i ≠ j := by rintro rfl; rw [hbx] at hj; cases hj
      simp [this]) h2
     rw [h3] at h4; cases h4
theorem cov_right {f : FormP} {c : CovP} {n : Nat} (hn : f.vars = n) (h : covE f c = 0) (ha : (faultV f c).1 = 0) :
  (∀ x ∈ c.cuts, inN n x /\ minP f x false n = true) /\ c.cuts.Nodup /\ (∀ s, inN n s -> showsB c.cuts c.paths (atT s c.tree 0 0) = true /\ (0 ≤ (atT s c.tree 0 0).reason -> valueF f s = true) /\ ((atT s c.tree 0 0).reason < 0 -> valueF f s = false)) /\
   (∀ s, inN n s -> (valueF f s = true ↔ Cov c.cuts s)) /\ ∀ s, inN n s -> minP f s false n = true -> s ∈ c.cuts := by
 obtain ⟨e1, e2, e3, e4⟩ := covE_zero h
 obtain ⟨a1, a2, a3, a4⟩ := fault_zero.1 ha
 obtain ⟨h0, hc⟩ := pathE_ok e1
 have ok := formE_ok h0
 have hv := ok.vars
 have hn24 : n ≤ 24 := by omega
 have hnn : f.vars.toNat = n := by omega
 rw [hn] at e2 e3
 obtain ⟨c1, c2⟩ := setE_zero hn24 e2
 obtain ⟨p1, p2⟩ := setE_zero hn24 e3
 have hg := okT_gT (by omega) (splE_ok e4).2.2.1
 have hcut : ∀ i, i < c.cuts.length -> minP f (c.cuts.getD i 0) false n = true /\ (c.cuts.take i).contains (c.cuts.getD i 0) = false := fun i hi => by
  have := a2 i hi
  rw [bad2, hnn, Bool.not_eq_false', Bool.and_eq_true, Bool.not_eq_true'] at this
  exact this
 have hA : ∀ x ∈ c.cuts, inN n x /\ minP f x false n = true := fun x hx => by
  obtain ⟨i, hi, rfl⟩ := List.getElem_of_mem hx
  have := (hcut i hi).1
  rw [List.getD_eq_getElem?_getD, List.getElem?_eq_getElem hi] at this
  exact ⟨c2 _ hx, this⟩
 have hND : c.cuts.Nodup := by
  refine List.pairwise_iff_getElem.2 fun i j hi hj hij e => ?_
  have := (hcut j hj).2
  rw [List.getD_eq_getElem?_getD, List.getElem?_eq_getElem hj] at this
  have hm : c.cuts[j] ∈ c.cuts.take j := by
   rw [<-e]
   exact List.mem_take_iff_getElem.2 ⟨i, by omega, rfl⟩
  rw [Option.getD_some, List.contains_iff_mem.2 hm] at this
  cases this
 have hP : ∀ x ∈ c.paths, inN n x /\ isP f x true = true := fun x hx => by
  obtain ⟨i, hi, rfl⟩ := List.getElem_of_mem hx
  have := a3 i hi
  rw [bad3, Bool.not_eq_false', List.getD_eq_getElem?_getD, List.getElem?_eq_getElem hi] at this
  exact ⟨p2 _ hx, this⟩
 have hL : ∀ s, inN n s -> showsB c.cuts c.paths (atT s c.tree 0 0) = true /\ leafIn (atT s c.tree 0 0) s = true := fun s hs => by
  obtain ⟨m1, m2⟩ := atT_mem hg s
  obtain ⟨i, hi, he⟩ := List.getElem_of_mem m1
  have := a4 i hi
  rw [bad4, Bool.not_eq_false', List.getD_eq_getElem?_getD, List.getElem?_eq_getElem hi, Option.getD_some, he] at this
  exact ⟨this, m2⟩
 have hcutx : ∀ s, inN n s -> 0 ≤ (atT s c.tree 0 0).reason -> ∃ x ∈ c.cuts, Part x s := fun s hs hr => by
  obtain ⟨l1, l2⟩ := hL s hs
  rw [showsB, if_pos hr, Bool.and_eq_true, decide_eq_true_iff, beq_iff_eq] at l1
  obtain ⟨q1, q2⟩ := l1
  have hlt : (atT s c.tree 0 0).reason.toNat < c.cuts.length := by omega
  rw [List.getD_eq_getElem?_getD, List.getElem?_eq_getElem hlt, Option.getD_some, nz_part (c2 _ (List.getElem_mem hlt)).1] at q2
  obtain ⟨i1, i2⟩ := (leafIn_iff _ s).1 l2
  refine ⟨_, List.getElem_mem hlt, fun i hi => ?_⟩
  have hy := q2 i hi
  refine i1 i (Nat.lt_of_not_le fun h' => ?_) hy
  rw [validS_bit (c2 _ (List.getElem_mem hlt)).1 (by omega)] at hi; cases hi
 have hpathx : ∀ s, inN n s -> (atT s c.tree 0 0).reason < 0 -> ∃ x ∈ c.paths, iand .i64 x s = 0 := fun s hs hr => by
  obtain ⟨l1, l2⟩ := hL s hs
  rw [showsB, if_neg (by omega), Bool.and_eq_true, decide_eq_true_iff, beq_iff_eq] at l1
  obtain ⟨q1, q2⟩ := l1
  have hlt : (-1 - (atT s c.tree 0 0).reason).toNat < c.paths.length := by omega
  rw [List.getD_eq_getElem?_getD, List.getElem?_eq_getElem hlt, Option.getD_some, nz_part (p2 _ (List.getElem_mem hlt)).1] at q2
  obtain ⟨i1, i2⟩ := (leafIn_iff _ s).1 l2
  refine ⟨_, List.getElem_mem hlt, iand_zero.2 fun i hi hb => i2 i hi (q2 i hb)⟩
 have hval1 : ∀ s, inN n s -> ∀ x ∈ c.cuts, Part x s -> valueF f s = true := fun s hs x hx hp => by
  have h1 := (minP_iff.1 (hA x hx).2).1
  have := isP_mono ok hc hn false x s (hA x hx).1 hs hp h1
  rwa [isP_cut] at this
 have hval0 : ∀ s, inN n s -> ∀ x ∈ c.paths, iand .i64 x s = 0 -> valueF f s = false := fun s hs x hx hz => by
  have hp := (iand_part0 (hP x hx).1 hs hn24).1 hz
  have h1 := isP_mono ok hc hn true x (iandNot .i64 (allN n) s) (hP x hx).1 (inN_iandNot hn24 (inN_allN hn24)) hp (hP x hx).2
  have hdbl : iandNot .i64 (allN n) (iandNot .i64 (allN n) s) = s := inN.ext (inN_iandNot hn24 (inN_allN hn24)) hs fun i hi => by
   rw [bit_iandNot', bit_iandNot', bit_allN hn24, decide_eq_true hi]; simp
  rw [isP_path hn, hdbl, Bool.not_eq_true'] at h1
  exact h1
 have hC : ∀ s, inN n s -> (valueF f s = true ↔ Cov c.cuts s) := fun s hs => by
  constructor
  ·intro hv1
   by_cases hr : 0 ≤ (atT s c.tree 0 0).reason
   ·exact hcutx s hs hr
   ·obtain ⟨x, hx, hz⟩ := hpathx s hs (by omega)
    rw [hval0 s hs x hx hz] at hv1; cases hv1
  ·rintro ⟨x, hx, hp⟩
   exact hval1 s hs x hx hp
 refine ⟨hA, hND, fun s hs => ⟨(hL s hs).1, fun hr => ?_, fun hr => ?_⟩, hC, fun s hs hm => ?_⟩
 ·obtain ⟨x, hx, hp⟩ := hcutx s hs hr
  exact hval1 s hs x hx hp
 ·obtain ⟨x, hx, hz⟩ := hpathx s hs hr
  exact hval0 s hs x hx hz
 ·have h1 := (minP_iff.1 hm).1
  rw [isP_cut] at h1
  obtain ⟨x, hx, hp⟩ := (hC s hs).1 h1
  have := min_eq ok hc hn (hA x hx).1 hs hm (minP_iff.1 (hA x hx).2).1 hp
  rwa [<-this]
end Go.Proofs.YtocnofkagckhkaaGreatDoor
end
section
namespace Go.Proofs.YtocnofkagckhkaaGreatDoor
open Go.Sy Go.Pu
variable [Drw]
def lowB (s : Int) : Nat := (firstB (bit s) 24).getD 0
theorem lowB_spec {s : Int} (hs : validS s = true) (h : s ≠ 0) : lowB s < 24 /\ bit s (lowB s) = true /\ ∀ i, i < lowB s -> bit s i = false := by
 unfold lowB
 cases hf : firstB (bit s) 24 with
 | some i => exact firstB_spec hf
 | none =>
   exfalso
   refine h ((eq_zero_iff (validS_rng hs)).2 fun i hi => ?_)
   by_cases h24 : i < 24
   ·exact firstB_none.1 hf i h24
   ·exact validS_bit hs (by omega)
theorem filt_lt {α : Type} {p q : α -> Bool} : ∀ {l : List α} {a : α}, (∀ x, q x = true -> p x = true) -> a ∈ l -> p a = true -> q a = false -> (l.filter q).length < (l.filter p).length
 | b :: l, a, hpq, ha, h1, h2 => by
   have hle : (l.filter q).length ≤ (l.filter p).length := by
    clear ha
    induction l with
    | nil => exact Nat.le_refl _
    | cons x l ih =>
      simp only [List.filter_cons]
      have := hpq x
      cases hq : q x <;> cases hp : p x <;> simp_all <;> omega
   simp only [List.filter_cons]
   rcases List.mem_cons.1 ha with rfl | ha
   ·rw [h1, h2]; simp; omega
   ·have := filt_lt hpq ha h1 h2
    have hb := hpq b
    cases hq : q b <;> cases hp : p b <;> simp_all <;> omega
def freeC (yes no : Int) : Nat := ((List.range 24).filter fun i => !bit yes i && !bit no i).length
theorem free_no {yes no : Int} {v : Nat} (hv : v < 24) (h1 : bit yes v = false) (h2 : bit no v = false) : freeC yes (ior .i64 no (Go.Pu.one v)) < freeC yes no := by
 refine filt_lt (a := v) (fun x hx => ?_) (List.mem_range.2 hv) (by rw [h1, h2]; rfl) (by rw [bit_ior, one_bit hv]; simp)
 rw [bit_ior] at hx
 cases h : bit yes x <;> cases h' : bit no x <;> simp_all
theorem free_yes {yes no : Int} {v : Nat} (hv : v < 24) (h1 : bit yes v = false) (h2 : bit no v = false) : freeC (ior .i64 yes (Go.Pu.one v)) no < freeC yes no := by
 refine filt_lt (a := v) (fun x hx => ?_) (List.mem_range.2 hv) (by rw [h1, h2]; rfl) (by rw [bit_ior, one_bit hv]; simp)
 rw [bit_ior] at hx
 cases h : bit yes x <;> cases h' : bit no x <;> simp_all
theorem free_le (yes no : Int) : freeC yes no ≤ 24 := by
 have := List.length_filter_le (fun i => !bit yes i && !bit no i) (List.range 24)
 simpa [freeC] using this
def inYes (cuts : List Int) (yes : Int) : Option Nat := firstB (fun i => iandNot .i64 (cuts.getD i 0) yes == 0) cuts.length
def offNo (cuts : List Int) (no : Int) : Option Nat := firstB (fun i => iand .i64 (cuts.getD i 0) no == 0) cuts.length
def nextV (cuts : List Int) (yes : Int) (i : Nat) : Nat := lowB (iandNot .i64 (cuts.getD i 0) yes)
def growP (cuts paths : List Int) : Nat -> Int -> Int -> Int -> Tr × Int × Int
 | 0, _, _, c => (.no, c, 0)
 | f + 1, yes, no, c => if 4096 < c + 1 then (.no, c + 1, 4) else
   match inYes cuts yes with
   | some i => (.lf i, c + 1, 0)
   | none => match inYes paths no with
     | some i => (.lf (-1 - i), c + 1, 0)
     | none => match offNo cuts no with
       | none => (.no, c + 1, 15)
       | some i =>
         if (growP cuts paths f yes (ior .i64 no (Go.Pu.one (nextV cuts yes i))) (c + 1)).2.2 = 0 then
          (Tr.two (nextV cuts yes i) (growP cuts paths f yes (ior .i64 no (Go.Pu.one (nextV cuts yes i))) (c + 1)).1 (growP cuts paths f (ior .i64 yes (Go.Pu.one (nextV cuts yes i))) no (growP cuts paths f yes (ior .i64 no (Go.Pu.one (nextV cuts yes i))) (c + 1)).2.1).1,
           (growP cuts paths f (ior .i64 yes (Go.Pu.one (nextV cuts yes i))) no (growP cuts paths f yes (ior .i64 no (Go.Pu.one (nextV cuts yes i))) (c + 1)).2.1).2)
         else (.no, (growP cuts paths f yes (ior .i64 no (Go.Pu.one (nextV cuts yes i))) (c + 1)).2)
def growR (cuts paths : List Int) : Nat -> Int -> Int -> Int -> Tr × Int
 | 0, _, _, l => (.no, l)
 | f + 1, yes, no, l => if l - 1 < 0 then (.no, l - 1) else
   match inYes cuts yes with
   | some i => (.lf i, l - 1)
   | none => match inYes paths no with
     | some i => (.lf (-1 - i), l - 1)
     | none => match offNo cuts no with
       | none => (.no, l - 1)
       | some i =>
         (Tr.two (nextV cuts yes i) (growR cuts paths f yes (ior .i64 no (Go.Pu.one (nextV cuts yes i))) (l - 1)).1 (growR cuts paths f (ior .i64 yes (Go.Pu.one (nextV cuts yes i))) no (growR cuts paths f yes (ior .i64 no (Go.Pu.one (nextV cuts yes i))) (l - 1)).2).1,
          (growR cuts paths f (ior .i64 yes (Go.Pu.one (nextV cuts yes i))) no (growR cuts paths f yes (ior .i64 no (Go.Pu.one (nextV cuts yes i))) (l - 1)).2).2)
theorem inYes_none {cuts : List Int} {yes : Int} (h : inYes cuts yes = none) : ∀ x ∈ cuts, iandNot .i64 x yes ≠ 0 := fun x hx => by
 obtain ⟨i, hi, rfl⟩ := List.getElem_of_mem hx
 have := firstB_none.1 h i hi
 rw [List.getD_eq_getElem?_getD, List.getElem?_eq_getElem hi] at this
 simpa using this
theorem inYes_some {cuts : List Int} {yes : Int} {i : Nat} (h : inYes cuts yes = some i) : i < cuts.length /\ iandNot .i64 (cuts.getD i 0) yes = 0 := by
 obtain ⟨h1, h2, _⟩ := firstB_spec h
 exact ⟨h1, by simpa using h2⟩
theorem offNo_some {cuts : List Int} {no : Int} {i : Nat} (h : offNo cuts no = some i) : i < cuts.length /\ iand .i64 (cuts.getD i 0) no = 0 := by
 obtain ⟨h1, h2, _⟩ := firstB_spec h
 exact ⟨h1, by simpa using h2⟩
theorem getD_mem {l : List Int} {i : Nat} (h : i < l.length) : l.getD i 0 ∈ l := by
 rw [List.getD_eq_getElem?_getD, List.getElem?_eq_getElem h]; exact List.getElem_mem h
theorem next_spec {n : Nat} (hn : n ≤ 24) {cuts : List Int} (hc : ∀ x ∈ cuts, inN n x) {yes no : Int} {i : Nat} (h1 : inYes cuts yes = none) (h2 : offNo cuts no = some i) :
  nextV cuts yes i < n /\ bit yes (nextV cuts yes i) = false /\ bit no (nextV cuts yes i) = false := by
 obtain ⟨g1, g2⟩ := offNo_some h2
 have hm := getD_mem g1
 have hx := hc _ hm
 have hne := inYes_none h1 _ hm
 unfold nextV
 generalize cuts.getD i 0 = x at *
 obtain ⟨q1, q2, _⟩ := lowB_spec (valid_iandNot (y := yes) hx.1) hne
 rw [bit_iandNot', Bool.and_eq_true, Bool.not_eq_true'] at q2
 refine ⟨Nat.lt_of_not_le fun h' => ?_, q2.2, iand_zero.1 g2 _ (by omega) q2.1⟩
 rw [hx.2 _ h'] at q2; cases q2.1
theorem growR_neg (cuts paths : List Int) (f : Nat) (yes no l : Int) (h : l ≤ 0) : growR cuts paths (f + 1) yes no l = (.no, l - 1) := by
 rw [growR, if_pos (by omega)]
section
variable {n : Nat} {cuts paths : List Int}
theorem grow_ref (hn : n ≤ 24) (hc : ∀ x ∈ cuts, inN n x) (H : ∀ no, (∀ x ∈ paths, iandNot .i64 x no ≠ 0) -> offNo cuts no ≠ none) : ∀ (f : Nat) (yes no c : Int), 0 ≤ c -> c ≤ 4096 -> freeC yes no < f ->
  ((growP cuts paths f yes no c).2.2 = 0 /\ c < (growP cuts paths f yes no c).2.1 /\ (growP cuts paths f yes no c).2.1 ≤ 4096 /\ growR cuts paths f yes no (4096 - c) = ((growP cuts paths f yes no c).1, 4096 - (growP cuts paths f yes no c).2.1)) ∨
    ((growP cuts paths f yes no c).2.2 = 4 /\ c < (growP cuts paths f yes no c).2.1 /\ (growP cuts paths f yes no c).2.1 ≤ 4097 /\ (growR cuts paths f yes no (4096 - c)).2 < 0)
 | 0, _, _, _, _, _, h => absurd h (Nat.not_lt_zero _)
 | f + 1, yes, no, c, h0, h1, hf => by
   rw [growP, growR]
   by_cases hbig : 4096 < c + 1
   ·rw [if_pos hbig, if_pos (by omega)]
    exact .inr ⟨rfl, by simp only; omega, by simp only; omega, by simp only; omega⟩
   rw [if_neg hbig, if_neg (by omega)]
   cases hy : inYes cuts yes with
   | some i => exact .inl ⟨rfl, by simp only; omega, by simp only; omega, Prod.ext rfl (by simp only; omega)⟩
   | none =>
   cases hp : inYes paths no with
   | some i => exact .inl ⟨rfl, by simp only; omega, by simp only; omega, Prod.ext rfl (by simp only; omega)⟩
   | none =>
   cases ho : offNo cuts no with
   | none => exact absurd ho (H no (inYes_none hp))
   | some i =>
     obtain ⟨v1, v2, v3⟩ := next_spec hn hc hy ho
     have fa := free_no (yes := yes) (no := no) (by omega) v2 v3
     have fb := free_yes (yes := yes) (no := no) (by omega) v2 v3
     dsimp only
     generalize nextV cuts yes i = v at *
     have ia := grow_ref hn hc H f yes (ior .i64 no (Go.Pu.one v)) (c + 1) (by omega) (by omega) (by omega)
     rw [show 4096 - c - 1 = 4096 - (c + 1) by omega]
     generalize growP cuts paths f yes (ior .i64 no (Go.Pu.one v)) (c + 1) = A at *
     generalize growR cuts paths f yes (ior .i64 no (Go.Pu.one v)) (4096 - (c + 1)) = RA at *
     rcases ia with ⟨a1, a2, a3, a4⟩ | ⟨a1, a2, a3, a4⟩
     ·rw [if_pos a1]
      have ib := grow_ref hn hc H f (ior .i64 yes (Go.Pu.one v)) no A.2.1 (by omega) (by omega) (by omega)
      rw [a4]
      dsimp only
      generalize growP cuts paths f (ior .i64 yes (Go.Pu.one v)) no A.2.1 = B at *
      generalize growR cuts paths f (ior .i64 yes (Go.Pu.one v)) no (4096 - A.2.1) = RB at *
      rcases ib with ⟨b1, b2, b3, b4⟩ | ⟨b1, b2, b3, b4⟩
      ·exact .inl ⟨b1, by omega, b3, by rw [b4]⟩
      ·exact .inr ⟨b1, by omega, b3, b4⟩
     ·rw [if_neg (by omega)]
      refine .inr ⟨a1, by simp only; omega, a3, ?_⟩
      obtain ⟨g, rfl⟩ : ∃ g, f = g + 1 := ⟨f - 1, by omega⟩
      rw [growR_neg _ _ _ _ _ _ (by omega)]
      simp only; omega
theorem shows_cut {cuts paths : List Int} {yes no : Int} {i : Nat} (h1 : i < cuts.length) (h2 : iandNot .i64 (cuts.getD i 0) yes = 0) : showsB cuts paths ⟨yes, no, (i : Int)⟩ = true := by
 unfold showsB
 rw [if_pos (show (0 : Int) ≤ (i : Int) by omega)]
 show (decide ((i : Int) < cuts.length) && iandNot .i64 (cuts.getD (Int.toNat (i : Int)) 0) yes == 0) = true
 rw [Int.toNat_natCast, h2, decide_eq_true (by omega)]; rfl
theorem shows_path {cuts paths : List Int} {yes no : Int} {i : Nat} (h1 : i < paths.length) (h2 : iandNot .i64 (paths.getD i 0) no = 0) : showsB cuts paths ⟨yes, no, -1 - (i : Int)⟩ = true := by
 unfold showsB
 rw [if_neg (show ¬ (0 : Int) ≤ -1 - (i : Int) by omega)]
 show (decide (-1 - (-1 - (i : Int)) < paths.length) && iandNot .i64 (paths.getD (Int.toNat (-1 - (-1 - (i : Int)))) 0) no == 0) = true
 rw [show -1 - (-1 - (i : Int)) = i by omega, Int.toNat_natCast, h2, decide_eq_true (by omega)]; rfl
theorem grow_tree (hn : n ≤ 24) (hc : ∀ x ∈ cuts, inN n x) : ∀ (f : Nat) (yes no c : Int), freeC yes no < f -> (growP cuts paths f yes no c).2.2 = 0 ->
  okT n (growP cuts paths f yes no c).1 (ior .i64 yes no) /\ cntN (growP cuts paths f yes no c).1 = (growP cuts paths f yes no c).2.1 - c /\ ∀ l ∈ lvs (growP cuts paths f yes no c).1 yes no, showsB cuts paths l = true
 | 0, _, _, _, h => absurd h (Nat.not_lt_zero _)
 | f + 1, yes, no, c, hf => by
   rw [growP]
   by_cases hbig : 4096 < c + 1
   ·rw [if_pos hbig]; intro h; cases h
   rw [if_neg hbig]
   cases hy : inYes cuts yes with
   | some i =>
     intro _
     obtain ⟨q1, q2⟩ := inYes_some hy
     refine ⟨okT_lf _ _ _, by rw [cntN_lf]; simp only; omega, fun l hl => ?_⟩
     rw [lvs_eq, if_neg (by simp)] at hl
     rw [List.mem_singleton] at hl
     subst hl
     exact shows_cut q1 q2
   | none =>
   cases hp : inYes paths no with
   | some i =>
     intro _
     obtain ⟨q1, q2⟩ := inYes_some hp
     refine ⟨okT_lf _ _ _, by rw [cntN_lf]; simp only; omega, fun l hl => ?_⟩
     rw [lvs_eq, if_neg (by simp)] at hl
     rw [List.mem_singleton] at hl
     subst hl
     exact shows_path q1 q2
   | none =>
   cases ho : offNo cuts no with
   | none => intro h; cases h
   | some i =>
     obtain ⟨v1, v2, v3⟩ := next_spec hn hc hy ho
     have fa := free_no (yes := yes) (no := no) (by omega) v2 v3
     have fb := free_yes (yes := yes) (no := no) (by omega) v2 v3
     dsimp only
     generalize nextV cuts yes i = v at *
     have ia := grow_tree hn hc f yes (ior .i64 no (Go.Pu.one v)) (c + 1) (by omega)
     generalize growP cuts paths f yes (ior .i64 no (Go.Pu.one v)) (c + 1) = A at *
     by_cases a0 : A.2.2 = 0
     ·rw [if_pos a0]
      have ib := grow_tree hn hc f (ior .i64 yes (Go.Pu.one v)) no A.2.1 (by omega)
      generalize growP cuts paths f (ior .i64 yes (Go.Pu.one v)) no A.2.1 = B at *
      intro b0
      obtain ⟨a1, a2, a3⟩ := ia a0
      obtain ⟨b1, b2, b3⟩ := ib b0
      have e1 : ishl 1 (v : Int) = Go.Pu.one v := rfl
      refine ⟨(okT_two ..).2 ⟨by omega, by omega, ?_, ?_, ?_⟩, ?_, fun l hl => ?_⟩
      ·rw [bitB_bit _ (by omega) (by omega), Int.toNat_natCast, bit_ior, v2, v3]; rfl
      ·refine okT_le (by omega) (fun j hj => ?_) a1
       rw [e1, bit_ior, bit_ior] at hj
       rw [bit_ior, bit_ior, <-Bool.or_assoc]; exact hj
      ·refine okT_le (by omega) (fun j hj => ?_) b1
       rw [e1, bit_ior, bit_ior] at hj
       rw [bit_ior, bit_ior]
       revert hj
       cases bit yes j <;> cases bit no j <;> cases bit (Go.Pu.one v) j <;> simp
      ·rw [cntN_two, a2, b2]; simp only; omega
      ·rw [lvs_eq, if_pos (by simp)] at hl
       rcases List.mem_append.1 hl with hl | hl
       ·exact a3 l hl
       ·exact b3 l hl
     ·rw [if_neg a0]
      intro h; exact absurd h a0
end
def makeG (f : FormP) : Tr × Int × Int := growP (hitL (pathsL f)) (pathsL f) 25 0 0 0
def makeE (f : FormP) : Int := if (pathsV f).2 = 0 then if hitE (pathsL f) = 0 then (makeG f).2.2 else hitE (pathsL f) else (pathsV f).2
def makeC (f : FormP) : CovP := if makeE f = 0 then ⟨hitL (pathsL f), pathsL f, (makeG f).1⟩ else ⟨[], [], .no⟩
theorem makeE_zero {f : FormP} (h : makeE f = 0) : pathE f = 0 /\ pathsE f = 0 /\ hitE (pathsL f) = 0 /\ (makeG f).2.2 = 0 := by
 unfold makeE at h
 split at h
 ·rename_i h1
  split at h
  ·rename_i h2
   unfold pathsV at h1
   split at h1
   ·rename_i h3; exact ⟨h3, h1, h2, h⟩
   ·rename_i h3; exact absurd h1 h3
  ·rename_i h2; exact absurd h h2
 ·rename_i h1; exact absurd h h1
theorem make_off {f : FormP} {n : Nat} (hn : f.vars = n) (h1 : pathE f = 0) (h2 : pathsE f = 0) (h3 : hitE (pathsL f) = 0) (no : Int) (hno : ∀ x ∈ pathsL f, iandNot .i64 x no ≠ 0) : offNo (hitL (pathsL f)) no ≠ none := by
 have hv := (formE_ok (pathE_ok h1).1).vars
 have hn24 : n ≤ 24 := by omega
 obtain ⟨_, hp⟩ := path_facts h1 hn
 obtain ⟨g1, g2, _⟩ := hp h2
 obtain ⟨f1, f2, f3⟩ := hit_facts h1 hn h2 h3
 have hs : inN n (iandNot .i64 (allN n) no) := inN_iandNot hn24 (inN_allN hn24)
 have hv1 : valueF f (iandNot .i64 (allN n) no) = true := by
  cases hb : valueF f (iandNot .i64 (allN n) no) with
  | true => rfl
  | false =>
    exfalso
    obtain ⟨x, hx, hpx⟩ := (g2 _ hs).2 hb
    refine hno x hx ((nz_part (g1.2 x hx).1).2 fun i hi => ?_)
    have := hpx i hi
    rw [bit_iandNot', bit_iandNot', Bool.and_eq_true] at this
    obtain ⟨q1, q2⟩ := this
    rw [q1, Bool.true_and, Bool.not_not] at q2
    exact q2
 obtain ⟨x, hx, hpx⟩ := (f1 _ hs).2 hv1
 intro hnone
 obtain ⟨i, hi, rfl⟩ := List.getElem_of_mem hx
 have := firstB_none.1 hnone i hi
 rw [List.getD_eq_getElem?_getD, List.getElem?_eq_getElem hi, Option.getD_some, beq_eq_false_iff_ne] at this
 refine this (iand_zero.2 fun j hj hb => ?_)
 have := hpx j hb
 rw [bit_iandNot', Bool.and_eq_true] at this
 simpa using this.2
theorem hit_in {f : FormP} {n : Nat} (hn : f.vars = n) (h1 : pathE f = 0) (h2 : pathsE f = 0) (h3 : hitE (pathsL f) = 0) : ∀ x ∈ hitL (pathsL f), inN n x /\ minP f x false n = true := fun x hx => by
 have hv := (formE_ok (pathE_ok h1).1).vars
 have hn24 : n ≤ 24 := by omega
 obtain ⟨f1, f2, f3⟩ := hit_facts h1 hn h2 h3
 obtain ⟨m1, m2⟩ := f3 x hx
 have hin : inN n x := by
  rw [pathSE, if_pos h1] at m2
  split at m2
  ·rename_i h
   rw [hn, ishl_one] at h
   exact (inN_iff hn24).2 h
  ·cases m2
 refine ⟨hin, ?_⟩
 rw [minV, m2, hn] at m1
 simpa using m1
theorem fam_nodup {l : List Int} (h : Fam l) : l.Nodup := by
 have h1 := minS_asc h.val
 rw [h.min] at h1
 exact List.Pairwise.imp (fun {a b} hab e => by subst e; rw [cmpS_neg] at hab; omega) h1
theorem make_ok {f : FormP} {n : Nat} (hn : f.vars = n) (h : makeE f = 0) : covE f (makeC f) = 0 /\ (faultV f (makeC f)).1 = 0 := by
 obtain ⟨h1, h2, h3, h4⟩ := makeE_zero h
 have hv := (formE_ok (pathE_ok h1).1).vars
 have hn24 : n ≤ 24 := by omega
 have hnn : f.vars.toNat = n := by omega
 obtain ⟨_, hp⟩ := path_facts h1 hn
 obtain ⟨g1, g2, g3⟩ := hp h2
 obtain ⟨f1, f2, f3⟩ := hit_facts h1 hn h2 h3
 have hin := hit_in hn h1 h2 h3
 have hnd := fam_nodup f2
 have hr := grow_ref (paths := pathsL f) hn24 (fun x hx => (hin x hx).1) (make_off hn h1 h2 h3) 25 0 0 0 (by decide) (by decide) (Nat.lt_succ_of_le (free_le 0 0))
 have ht := grow_tree (paths := pathsL f) hn24 (fun x hx => (hin x hx).1) 25 0 0 0 (Nat.lt_succ_of_le (free_le 0 0)) h4
 have hm : makeC f = ⟨hitL (pathsL f), pathsL f, (makeG f).1⟩ := by rw [makeC, if_pos h]
 rw [hm]
 obtain ⟨t1, t2, t3⟩ := ht
 have hG : growP (hitL (pathsL f)) (pathsL f) 25 0 0 0 = makeG f := rfl
 rw [hG] at hr t1 t2 t3
 have hcnt : cntN (makeG f).1 ≤ 4096 := by
  rcases hr with ⟨_, _, r3, _⟩ | ⟨r1, _⟩
  ·omega
  ·rw [h4] at r1; cases r1
 constructor
 ·unfold covE
  rw [if_pos h1, hn, setE_of hn24 f2.len fun x hx => (hin x hx).1, if_pos rfl, setE_of hn24 g1.1.len g1.2, if_pos rfl]
  refine splE_of (by omega) (by omega) (okT_le (by omega) (fun i hi => ?_) t1) hcnt
  simp at hi
 ·refine fault_zero.2 ⟨fun i hi => ?_, fun i hi => ?_, fun i hi => ?_, fun i hi => ?_⟩
  ·have := hin _ (getD_mem hi)
   rw [bad1, (minP_iff.1 this.2).1]; rfl
  ·have hx := hin _ (getD_mem hi)
   rw [bad2, hnn, hx.2, Bool.not_eq_false', Bool.true_and, Bool.not_eq_true']
   cases hb : ((hitL (pathsL f)).take i).contains ((hitL (pathsL f)).getD i 0) with
   | false => rfl
   | true =>
     exfalso
     rw [List.contains_iff_mem] at hb
     obtain ⟨j, hj, he⟩ := List.mem_take_iff_getElem.1 hb
     have hi' : i < (hitL (pathsL f)).length := hi
     rw [List.getD_eq_getElem?_getD, List.getElem?_eq_getElem hi', Option.getD_some] at he
     exact List.pairwise_iff_getElem.1 hnd j i (by omega) hi' (by omega) he
  ·have := (g3 _ (getD_mem hi)).1
   have e := pathSE_in h1 hn hn24 (g1.2 _ (getD_mem hi))
   rw [minV, hnn, Bool.and_eq_true] at this
   rw [bad3, (minP_iff.1 this.2).1]; rfl
  ·rw [bad4, t3, Bool.not_true]
   have hi' : i < (lvs (makeG f).1 0 0).length := hi
   rw [List.getD_eq_getElem?_getD, List.getElem?_eq_getElem hi']
   exact List.getElem_mem hi'
end Go.Proofs.YtocnofkagckhkaaGreatDoor
end
