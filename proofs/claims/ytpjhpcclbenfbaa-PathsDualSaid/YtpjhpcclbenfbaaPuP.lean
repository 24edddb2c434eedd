/-
  PATH SETS OF A FORMULA: the program's way and the reference's come to the same. No program is named here.
-/
import Derived.Test.YtpjhpcclbenfbaaPuT
import Derived.Test.YtpjhpcclbenfbaaPuH
set_option linter.unusedVariables false
set_option linter.unusedSimpArgs false
namespace Go.Pu
open Go.Sy
abbrev LS := List Int
def plusP (a b : LS) : LS × Int := if bothE a b = 0 then (limL (minS (a ++ b)), limE (minS (a ++ b))) else ([], bothE a b)
def prodP (a b : LS) : LS × Int := if bothE a b = 0 then (limL (minS (unionsC a b)), limE (minS (unionsC a b))) else ([], bothE a b)
theorem listE_val {l : LS} (h : listE l = 0) : Val l ∧ l.length ≤ 1024 := by
  unfold listE at h
  split at h
  · cases h
  · split at h
    · rename_i h1 h2; exact ⟨fun x hx => (List.all_eq_true.1 h2) x hx, by omega⟩
    · cases h
theorem bothE_val {a b : LS} (h : bothE a b = 0) : (Val a ∧ a.length ≤ 1024) ∧ (Val b ∧ b.length ≤ 1024) := by
  unfold bothE at h
  split at h
  · rename_i h1; exact ⟨listE_val h1, listE_val h⟩
  · rename_i h1; exact absurd h h1
theorem plus_ref (a b : LS) : plusP a b = if bothE a b = 0 then (limL (leastS (a ++ b)), limE (leastS (a ++ b))) else ([], bothE a b) := by
  unfold plusP
  split
  · rename_i h
    obtain ⟨⟨ha, _⟩, hb, _⟩ := bothE_val h
    rw [minS_eq (ha.append hb)]
  · rfl
theorem prod_ref (a b : LS) : prodP a b = if bothE a b = 0 then (limL (leastS (unionsL a b)), limE (leastS (unionsL a b))) else ([], bothE a b) := by
  unfold prodP
  split
  · rename_i h
    obtain ⟨⟨ha, _⟩, hb, _⟩ := bothE_val h
    rw [minS_unionsC ha hb, minS_eq (ha.unionsL hb)]
  · rfl
/-- a family: sets in order, none within another, not too many -/
theorem plus_fam {a b : LS} (h : (plusP a b).2 = 0) : Fam (plusP a b).1 := by
  unfold plusP at h ⊢
  split at h
  · rename_i hb
    rw [if_pos hb]
    obtain ⟨⟨ha, _⟩, hb', _⟩ := bothE_val hb
    obtain ⟨h1, h2⟩ := limL_zero h
    simp only [h1]
    exact ⟨(ha.append hb').minS, h2, (anti_min (ha.append hb')).2.1⟩
  · rename_i hb; exact absurd h hb
theorem prod_fam {a b : LS} (h : (prodP a b).2 = 0) : Fam (prodP a b).1 := by
  unfold prodP at h ⊢
  split at h
  · rename_i hb
    rw [if_pos hb]
    obtain ⟨⟨ha, _⟩, hb', _⟩ := bothE_val hb
    obtain ⟨h1, h2⟩ := limL_zero h
    simp only [h1]
    exact ⟨(ha.unionsC hb').minS, h2, (anti_min (ha.unionsC hb')).2.1⟩
  · rename_i hb; exact absurd h hb

def foldP (op : LS → LS → LS × Int) : List LS → LS → LS × Int
  | [], acc => (acc, 0)
  | r :: rs, acc => if (op acc r).2 = 0 then foldP op rs (op acc r).1 else ([], (op acc r).2)
/-- one row of a vote, from the j-th place down -/
def voteJ (row : LS) : Nat → List LS → List LS × Int
  | 0, tab => (tab, 0)
  | j + 1, tab => if (prodP (tab.getD j []) row).2 = 0 then
      if (plusP (tab.getD (j + 1) []) (prodP (tab.getD j []) row).1).2 = 0 then voteJ row j (tab.set (j + 1) (plusP (tab.getD (j + 1) []) (prodP (tab.getD j []) row).1).1)
      else ([], (plusP (tab.getD (j + 1) []) (prodP (tab.getD j []) row).1).2)
    else ([], (prodP (tab.getD j []) row).2)
def voteR (k : Nat) : List LS → List LS → List LS × Int
  | [], tab => (tab, 0)
  | r :: rs, tab => if (voteJ r k tab).2 = 0 then voteR k rs (voteJ r k tab).1 else ([], (voteJ r k tab).2)
def tab0 (k : Nat) : List LS := (List.replicate (k + 1) []).set 0 [0]
def voteP (rows : List LS) (k : Nat) : LS × Int := if (voteR k rows (tab0 k)).2 = 0 then ((voteR k rows (tab0 k)).1.getD k [], 0) else ([], (voteR k rows (tab0 k)).2)
/-- a node's path sets out of those of its arguments -/
def nodePS (kind k : Int) (rows : List LS) : LS × Int :=
  if kind = 0 then (if k = 0 then [0] else [], 0)
  else if kind = 3 then foldP prodP rows [0]
  else if kind = 2 then foldP plusP rows []
  else voteP rows ((rows.length : Int) - k + 1).toNat
theorem voteJ_length (row : LS) : ∀ (j : Nat) (tab : List LS), (voteJ row j tab).2 = 0 → (voteJ row j tab).1.length = tab.length
  | 0, tab, _ => rfl
  | j + 1, tab, h => by
    unfold voteJ at h ⊢
    split at h
    · rename_i h1
      rw [if_pos h1]
      split at h
      · rename_i h2
        rw [if_pos h2]
        rw [voteJ_length row j _ h, List.length_set]
      · rename_i h2; exact absurd h h2
    · rename_i h1; exact absurd h h1
theorem voteR_length (k : Nat) : ∀ (rs : List LS) (tab : List LS), (voteR k rs tab).2 = 0 → (voteR k rs tab).1.length = tab.length
  | [], tab, _ => rfl
  | r :: rs, tab, h => by
    unfold voteR at h ⊢
    split at h
    · rename_i h1
      rw [if_pos h1, voteR_length k rs _ h, voteJ_length r k tab h1]
    · rename_i h1; exact absurd h h1

/-- the program's way: over the nodes, one after another -/
def runP : List NodeP → List LS → List LS × Int
  | [], fam => (fam, 0)
  | x :: r, fam => if (nodePS x.kind x.k (x.args.map fun a => fam.getD a.toNat [])).2 = 0 then runP r (fam ++ [(nodePS x.kind x.k (x.args.map fun a => fam.getD a.toNat [])).1])
    else ([], (nodePS x.kind x.k (x.args.map fun a => fam.getD a.toNat [])).2)
theorem runP_append : ∀ (l : List NodeP) (fam : List LS) (x : NodeP), (runP l fam).2 = 0 → runP (l ++ [x]) fam = runP [x] (runP l fam).1
  | [], fam, x, _ => rfl
  | y :: l, fam, x, h => by
    rw [runP] at h
    split at h
    · rename_i h1
      rw [List.cons_append, runP, if_pos h1, runP_append l _ x h]
      rw [show runP (y :: l) fam = _ from by rw [runP, if_pos h1]]
    · rename_i h1; exact absurd h h1
theorem runP_bad : ∀ (l l' : List NodeP) (fam : List LS), ¬ (runP l fam).2 = 0 → runP (l ++ l') fam = runP l fam
  | [], l', fam, h => absurd rfl h
  | y :: l, l', fam, h => by
    rw [List.cons_append, runP]
    rw [runP] at h ⊢
    split
    · rename_i h1; rw [if_pos h1] at h; exact runP_bad l l' _ h
    · rfl
theorem runP_length : ∀ (l : List NodeP) (fam : List LS), (runP l fam).2 = 0 → (runP l fam).1.length = fam.length + l.length
  | [], fam, _ => by simp [runP]
  | x :: l, fam, h => by
    rw [runP] at h ⊢
    split at h
    · rename_i h1
      rw [if_pos h1, runP_length l _ h]; simp; omega
    · rename_i h1; exact absurd h h1
def fam0 (n : Nat) : List LS := (List.range n).map fun i => [one i]
def pathsE (f : FormP) : Int := (runP (trimF f).nodes (fam0 f.vars.toNat)).2
def pathsL (f : FormP) : LS := if pathsE f = 0 then (runP (trimF f).nodes (fam0 f.vars.toNat)).1.getD (trimF f).top.toNat [] else []

/-- the reference's way: over all nodes, those below the top alone -/
def argR (n : Nat) (tab : List LS) (a : Int) : LS := if a < n then [one a.toNat] else tab.getD (a - n).toNat []
def runR (n : Nat) (ns : List NodeP) (m : List Bool) : Nat → List LS × Int
  | 0 => (List.replicate ns.length [], 0)
  | i + 1 => if (runR n ns m i).2 = 0 then
      if m.getD (n + i) false = true then
        if (nodePS (ns.getD i node0).kind (ns.getD i node0).k ((ns.getD i node0).args.map (argR n (runR n ns m i).1))).2 = 0 then ((runR n ns m i).1.set i (nodePS (ns.getD i node0).kind (ns.getD i node0).k ((ns.getD i node0).args.map (argR n (runR n ns m i).1))).1, 0)
        else ([], (nodePS (ns.getD i node0).kind (ns.getD i node0).k ((ns.getD i node0).args.map (argR n (runR n ns m i).1))).2)
      else runR n ns m i
    else runR n ns m i
theorem runP_one (x : NodeP) (fam : List LS) : runP [x] fam = if (nodePS x.kind x.k (x.args.map fun a => fam.getD a.toNat [])).2 = 0 then (fam ++ [(nodePS x.kind x.k (x.args.map fun a => fam.getD a.toNat [])).1], 0) else ([], (nodePS x.kind x.k (x.args.map fun a => fam.getD a.toNat [])).2) := by
  rw [runP]; rfl
theorem runR_succ (n : Nat) (ns : List NodeP) (m : List Bool) (i : Nat) : runR n ns m (i + 1) = if (runR n ns m i).2 = 0 then
      if m.getD (n + i) false = true then
        if (nodePS (ns.getD i node0).kind (ns.getD i node0).k ((ns.getD i node0).args.map (argR n (runR n ns m i).1))).2 = 0 then ((runR n ns m i).1.set i (nodePS (ns.getD i node0).kind (ns.getD i node0).k ((ns.getD i node0).args.map (argR n (runR n ns m i).1))).1, 0)
        else ([], (nodePS (ns.getD i node0).kind (ns.getD i node0).k ((ns.getD i node0).args.map (argR n (runR n ns m i).1))).2)
      else runR n ns m i
    else runR n ns m i := rfl
theorem getD_app_left {α : Type} {l : List α} {x d : α} {i : Nat} (h : i < l.length) : (l ++ [x]).getD i d = l.getD i d := by
  simp [List.getD_eq_getElem?_getD, List.getElem?_append_left h]
theorem getD_app_last {α : Type} {l : List α} {x d : α} {i : Nat} (h : i = l.length) : (l ++ [x]).getD i d = x := by
  subst h; simp [List.getD_eq_getElem?_getD]
theorem getD_set_far {α : Type} {l : List α} {x d : α} {i j : Nat} (h : i ≠ j) : (l.set i x).getD j d = l.getD j d := by
  simp [List.getD_eq_getElem?_getD, List.getElem?_set_ne h]
theorem getD_set_at {α : Type} {l : List α} {x d : α} {i : Nat} (h : i < l.length) : (l.set i x).getD i d = x := by
  simp [List.getD_eq_getElem?_getD, h]
section
variable {n : Nat} {ns : List NodeP} {m : List Bool}
theorem run_eq (hcl : ∀ (i : Nat) (h : i < ns.length), m.getD (n + i) false = true → ∀ a ∈ ns[i].args, m.getD a.toNat false = true ∧ 0 ≤ a ∧ a.toNat < n + i) : ∀ i, i ≤ ns.length →
    (runP (trimN n ns m i).2 (fam0 n)).2 = (runR n ns m i).2 ∧ ((runR n ns m i).2 = 0 → (runR n ns m i).1.length = ns.length ∧
      ∀ j, j < n + i → m.getD j false = true → 0 ≤ (trimN n ns m i).1.getD j 0 ∧ ((trimN n ns m i).1.getD j 0).toNat < n + (trimN n ns m i).2.length ∧ argR n (runR n ns m i).1 j = (runP (trimN n ns m i).2 (fam0 n)).1.getD ((trimN n ns m i).1.getD j 0).toNat [])
  | 0, _ => by
    refine ⟨rfl, fun _ => ⟨by simp [runR], fun j hj _ => ?_⟩⟩
    have hj' : j < n := by omega
    have e : (trimN n ns m 0).1.getD j 0 = (j : Int) := by
      simp [trimN, List.getD_eq_getElem?_getD, show j < n + ns.length by omega, hj']
    rw [e]
    refine ⟨by omega, by simp [trimN]; omega, ?_⟩
    simp [argR, runP, trimN, fam0, List.getD_eq_getElem?_getD, hj']
  | i + 1, hi => by
    obtain ⟨ih1, ih2⟩ := run_eq hcl i (by omega)
    have hi' : i < ns.length := by omega
    have htl := trimN_len n ns m i
    have e1 := trimN_succ n ns m i
    have e2 := runR_succ n ns m i
    have hX : ns.getD i node0 = ns[i] := by simp [List.getD_eq_getElem?_getD, hi']
    by_cases h0 : (runR n ns m i).2 = 0
    · obtain ⟨hlen, hrel⟩ := ih2 h0
      rw [if_pos h0] at e2
      by_cases hm : m.getD (n + i) false = true
      · rw [if_pos hm] at e1 e2
        have hP0 : (runP (trimN n ns m i).2 (fam0 n)).2 = 0 := by rw [ih1, h0]
        have hfl : (runP (trimN n ns m i).2 (fam0 n)).1.length = n + (trimN n ns m i).2.length := by rw [runP_length _ _ hP0]; simp [fam0]
        have hc := hcl i hi' hm
        rw [hX] at e1 e2
        generalize ns[i] = X at hc e1 e2
        generalize hTT : trimN n ns m i = TT at *
        obtain ⟨mv, kept⟩ := TT
        generalize hRR : runR n ns m i = RR at *
        obtain ⟨tab, er⟩ := RR
        simp only at h0 hlen hrel e1 e2 hP0 hfl htl
        generalize hFF : runP kept (fam0 n) = FF at *
        obtain ⟨fam, fe⟩ := FF
        simp only at hP0 hfl hrel
        have hrows : X.args.map (argR n tab) = (X.args.map fun a => mv.getD a.toNat 0).map fun a => fam.getD a.toNat [] := by
          rw [List.map_map]
          refine List.map_congr_left fun a ha => ?_
          obtain ⟨k1, k2, k3⟩ := hc a ha
          have := (hrel a.toNat (by omega) k1).2.2
          rw [Int.toNat_of_nonneg k2] at this
          exact this
        rw [hrows] at e2
        have e3 : runP (trimN n ns m (i + 1)).2 (fam0 n) = runP [⟨X.kind, X.k, X.args.map fun a => mv.getD a.toNat 0⟩] fam := by
          rw [e1]
          have := runP_append kept (fam0 n) ⟨X.kind, X.k, X.args.map fun a => mv.getD a.toNat 0⟩ (by rw [hFF]; exact hP0)
          rw [this, hFF]
        rw [runP_one] at e3
        simp only at e3
        generalize hp : nodePS X.kind X.k ((X.args.map fun a => mv.getD a.toNat 0).map fun a => fam.getD a.toNat []) = p at e2 e3
        by_cases hp0 : p.2 = 0
        · rw [if_pos hp0] at e2 e3
          rw [e1, e2] 
          rw [e1] at e3
          simp only at e3
          rw [e3]
          refine ⟨rfl, fun _ => ⟨by simp [hlen], fun j hj hjm => ?_⟩⟩
          simp only [List.length_append, List.length_cons, List.length_nil]
          by_cases hji : j = n + i
          · subst hji
            have e4 : (mv.set (n + i) ((n : Int) + (kept.length : Int))).getD (n + i) 0 = (n : Int) + (kept.length : Int) := getD_set_at (by omega)
            rw [e4]
            refine ⟨by omega, by omega, ?_⟩
            rw [getD_app_last (by rw [hfl]; omega), argR, if_neg (by omega), show Int.toNat (((n + i : Nat) : Int) - (n : Int)) = i by omega, getD_set_at (by omega)]
          · obtain ⟨k1, k2, k3⟩ := hrel j (by omega) hjm
            have e4 : (mv.set (n + i) ((n : Int) + (kept.length : Int))).getD j 0 = mv.getD j 0 := getD_set_far (Ne.symm hji)
            rw [e4]
            refine ⟨k1, by omega, ?_⟩
            rw [getD_app_left (by rw [hfl]; exact k2), ← k3]
            unfold argR
            by_cases hjn : (j : Int) < n
            · rw [if_pos hjn, if_pos hjn]
            · rw [if_neg hjn, if_neg hjn]
              exact getD_set_far (by omega)
        · rw [if_neg hp0] at e2 e3
          rw [e2, e3]
          exact ⟨rfl, fun h => absurd h hp0⟩
      · rw [if_neg hm] at e1 e2
        rw [e1, e2]
        refine ⟨ih1, fun _ => ⟨hlen, fun j hj hjm => ?_⟩⟩
        by_cases hji : j = n + i
        · subst hji; exact absurd hjm hm
        · exact hrel j (by omega) hjm
    · rw [if_neg h0] at e2
      rw [e2]
      refine ⟨?_, fun h => absurd h h0⟩
      rw [e1]
      split
      · rw [runP_bad _ _ _ (by rw [ih1]; exact h0), ih1]
      · exact ih1
end
end Go.Pu
