/-
 SyK, SyO, Lay, one text.
-/
import Derived.Test.YtgoilpfpmbjegaaGreatDoorKba
import Derived.Test.YtgoilpfpmbjegaaGreatDoorProg
import Derived.KernelRfl
set_option linter.unusedSectionVars false
set_option linter.unusedVariables false
set_option linter.unusedSimpArgs false
section
namespace Go.Sy
variable [Drw]
section
variable {P : Program} {lay : Lay} {o o' : Nat -> Tag} {h h' : Nat -> Value} {A A' : St} {tm : Array Value} {w w' : World}
def srcOf (A : St) (i : Nat) (x : Operand) : Option (CV × Prop) :=
 match rd A x with
 | some (.c Y, p) => match Y with
   | .sl _ _ _ => some (Y, p)
   | _ => none
 | some (.r j, p) => match lk A.rs j with
   | some (.own _ Y) => match Nat.beq j i with
     | false => some (Y, p)
     | true => none
   | _ => none
 | _ => none
theorem div_mod_lt {j m k : Nat} (hj : j < m * k) : j / k < m /\ j % k < k /\ j / k * k + j % k = j := by
 have hk : 0 < k := by
  rcases Nat.eq_zero_or_pos k with rfl | h
  ·simp at hj
  ·exact h
 exact ⟨Nat.div_lt_of_lt_mul (by rw [Nat.mul_comm]; exact hj), Nat.mod_lt _ hk, by rw [Nat.mul_comm]; exact Nat.div_add_mod j k⟩
theorem srcOf_ok (hs : Sat o h A tm w) {i : Nat} {x : Operand} {Y : CV} {p : Prop} (hx : srcOf A i x = some (Y, p)) (hp : p) {m k : Nat} {g : Nat -> Nat -> CV} (hY : Y = .sl m k g) :
  ∃ a c, evl tm x = .slice a m c /\ ((a = none /\ m = 0) ∨ ∃ (ad : Addr) (news : List Value), a = some ad /\ news.length = m * k /\ (∀ (j : Nat) u, news[j]? = some u -> w.cell? (ad.add j) = some u) /\ (∀ u ∈ news, u.oneCell' = true) /\
    ∀ e q, e < m -> q < k -> ∃ u, news[e * k + q]? = some u /\ RepV o w (g e q) u) := by
 subst hY
 unfold srcOf at hx
 split at hx
 ·rename_i Y' p' hr
  split at hx
  ·simp only [Option.some.injEq, Prod.mk.injEq] at hx
   obtain ⟨e, rfl⟩ := hx
   cases e
   obtain ⟨a, cap, hv, h1, h2, h3⟩ := qY6 hs hr hp
   refine ⟨a, cap, hv, ?_⟩
   rcases h3 with rfl | ⟨b, off, rfl, hb, hrow⟩
   ·cases a with
    | none => exact .inl ⟨rfl, rfl⟩
    | some ad => exact .inr ⟨ad, [], rfl, by simp, by simp, by simp, fun e q he => by omega⟩
   ·right
    obtain ⟨us, hl, hu⟩ := choose_list (fun (j : Nat) (u : Value) => w.cell? ⟨b, off + j, none⟩ = some u /\ RepV o w (g (j / k) (j % k)) u) (m * k) (fun j => j) (fun j hj => by
     obtain ⟨h1, h2, h3⟩ := div_mod_lt hj
     obtain ⟨u, hu, hx⟩ := hrow _ _ h1 h2
     exact ⟨u, by rw [h3] at hu; exact hu, hx⟩)
    refine ⟨⟨b, off, none⟩, us, rfl, hl, fun j u hj => by rw [qB4]; exact (hu j u hj).1, fun u hm => ?_, fun e q he hq => ?_⟩
    ·obtain ⟨j, hj⟩ := List.getElem?_of_mem hm
     exact (hu j u hj).2.one
    ·have hlt := one_lt he hq
     have hj : us[e * k + q]? = some us[e * k + q] := List.getElem?_eq_getElem (by omega)
     have := (hu _ _ hj).2
     rw [show (e * k + q) / k = e by rw [Nat.add_comm, Nat.add_mul_div_right _ _ (by omega), Nat.div_eq_of_lt hq, Nat.zero_add],
      show (e * k + q) % k = q by rw [Nat.add_comm, Nat.add_mul_mod_self_right]; exact Nat.mod_eq_of_lt hq] at this
     exact ⟨_, hj, this⟩
  ·cases hx
 ·rename_i j p' hr
  split at hx
  ·rename_i E Y' hl
   split at hx
   ·simp only [Option.some.injEq, Prod.mk.injEq] at hx
    obtain ⟨rfl, rfl⟩ := hx
    have hv : evl tm x = h j := qY6 hs hr hp
    obtain ⟨vs, hown, htag, hvs⟩ := hs.res j _ hl
    rcases hown.2 with ⟨h1, rfl⟩ | ⟨b, cap, cur, h1, h2, h3, h4, h5, h6, h7⟩
    ·exact ⟨none, 0, hv.trans h1, .inl ⟨rfl, rfl⟩⟩
    ·refine ⟨_, cap, hv.trans h1, .inr ⟨⟨b, 0, none⟩, vs, rfl, hown.1, hown.cells (by rw [h1]; rfl), fun u hm => ?_, hvs⟩⟩
     obtain ⟨q, hq⟩ := List.getElem?_of_mem hm
     have hql : q < m * k := by rw [<-hown.1]; exact (List.getElem?_eq_some_iff.1 hq).1
     obtain ⟨d1, d2, d3⟩ := div_mod_lt hql
     obtain ⟨u', hu', hr⟩ := hvs _ _ d1 d2
     rw [d3, hq] at hu'
     cases hu'; exact hr.one
   ·cases hx
  ·cases hx
 ·cases hx
theorem RepV.drew {x : CV} {u : Value} (hx : RepV o w x u) : RepV o w.drew x u := by
 have hk : Keep o w o w.drew := fun b hb => ⟨hb, rfl⟩
 exact RepV.keep hk hx
theorem Sat.drew (hs : Sat o h A tm w) : Sat o h A tm w.drew := by
 have hk : Keep o w o w.drew := fun b hb => ⟨hb, rfl⟩
 exact ⟨hs.size, hs.tags, fun s x hl => (hs.slot s x hl).keep hk, fun i r hl => ResOk.chg hk (fun b hb => ⟨hb, rfl⟩) rfl (fun j hj => absurd rfl hj) (hs.res i r hl)⟩
theorem Ext.drew (o : Nat -> Tag) (w : World) : Ext o w o w.drew := ⟨Nat.le_refl _, rfl, rfl, rfl, Drw.mono _ _ (Nat.le_succ _), fun _ hb _ => ⟨hb, rfl⟩, fun _ hb _ => ⟨hb, rfl⟩⟩
theorem Sat.gone (hs : Sat o h A tm w) (i : Nat) {d : Nat} {r : Res} {sl : List (Nat × SV)} {rs : List (Nat × Res)} (hA : A = ⟨A.n, sl, (d, r) :: rs⟩) : Sat o h ⟨A.n, sl, (d, r) :: (i, .gone) :: rs⟩ tm w := by
 have hsl : A.sl = sl := by rw [hA]
 have hrs : A.rs = (d, r) :: rs := by rw [hA]
 refine ⟨hs.size, hs.tags, fun s x hl => hs.slot s x (by rw [hsl]; exact hl), fun j r' hl => ?_⟩
 rw [qQ3] at hl
 split at hl
 ·rename_i e; exact hs.res j r' (by rw [hrs, qQ3, if_pos e]; exact hl)
 ·rename_i hne
  rw [qQ3] at hl
  split at hl
  ·cases hl; trivial
  ·exact hs.res j r' (by rw [hrs, qQ3, if_neg hne]; exact hl)
def evA (lay : Lay) (A : St) (op : Oper) : Option (St × Prop) :=
 match op.op, op.dst with
 | .call c, some d => match c.callee, c.args.toList, c.argTypes.toList with
   | .builtin .append, [s, x], [t, t'] => match Nat.beq t' t, lk lay t, Nat.blt d A.n, qW9 A d with
     | true, some ⟨_, _, .sl E es bytes, _⟩, true, true => match rd A s, lk lay E with
       | some (.r i, p), some _ => match lk A.rs i, srcOf A i x with
         | some (.own E' X), some (Y, q) => match X, Y with
           | .sl n k f, .sl m k' g => match Nat.beq E' E, Nat.beq k es, Nat.beq k' es with
             | true, true, true => some (⟨A.n, (d, .e (.r d)) :: A.sl, (d, .own E (catV X Y)) :: (i, .gone) :: A.rs⟩, p /\ q /\ (n + m) * bytes ≤ 140737488355328 /\ n + m ≤ 140737488355328)
             | _, _, _ => none
           | _, _ => none
         | _, _ => none
       | some (.c (.lit (.slice none 0 0)), p), some _ => match srcOf A d x with
         | some (Y, q) => match Y with
           | .sl m k' g => match Nat.beq k' es with
             | true => some (⟨A.n, (d, .e (.r d)) :: A.sl, (d, .own E Y) :: (d, .gone) :: A.rs⟩, p /\ q /\ m * bytes ≤ 140737488355328 /\ m ≤ 140737488355328)
             | false => none
           | _ => none
         | none => none
       | _, _ => none
     | _, _, _, _ => none
   | _, _, _ => none
 | _, _ => none
theorem app_run (hl : qJ1 P lay) {t sz E es bytes ty : Nat} {ag : Bool} {zz : List Value} (hT : lk lay t = some ⟨sz, ag, .sl E es bytes, zz⟩) {rE : TRow} (hE : lk lay E = some rE) {v : Value} {n m : Nat} {vs : List Value} (hown : w.ownsRow 0 E es v n vs)
  {a : Option Addr} {c : Nat} (C : List Value -> Prop) (hsrc : (a = none /\ m = 0) ∨ ∃ (ad : Addr) (news : List Value), a = some ad /\ news.length = m * es /\ (∀ (j : Nat) u, news[j]? = some u -> w.cell? (ad.add j) = some u) /\ (∀ u ∈ news, u.oneCell' = true) /\ C news) (hb1 : (n + m) * bytes ≤ 140737488355328) (hb2 : n + m ≤ 140737488355328) :
  ((Builtin.append_ #[t, t] ty #[v, .slice a m c]).run P w = .ok v w /\ m = 0) ∨
  (∃ news : List Value, news.length = m * es /\ C news /\
   ((∃ g cap cur, v = .slice (some ⟨g, 0, none⟩) n cap /\ w.heap[g]? = some (.cells cur E (0, 0)) /\ n + m ≤ cap /\ cap ≤ maxLen /\ cur.size = cap * es /\ cur.toList.take (n * es) = vs /\
     (Builtin.append_ #[t, t] ty #[v, .slice a m c]).run P w = .ok (.slice (some ⟨g, 0, none⟩) (n + m) cap) (w.setRow g (cur.toList.take (n * es) ++ news ++ cur.toList.drop (n * es + news.length)).toArray)) ∨
    ∃ cap cur', n + m ≤ cap /\ cap ≤ maxLen /\ cur'.size = cap * es /\ cur'.toList.take ((n + m) * es) = vs ++ news /\
     (Builtin.append_ #[t, t] ty #[v, .slice a m c]).run P w = .ok (.slice (some ⟨w.heap.size, 0, none⟩) (n + m) cap) (w.drew.alloc (.cells cur' E)))) := by
 obtain ⟨hu, hes, i0, hinfo, hisz, hiby⟩ := sl_elem hl hT
 obtain ⟨iE, z, hiE, hszE, hzE, hzcE, _, _⟩ := (hl _ _ hE).info
 rw [hinfo] at hiE
 cases hiE
 have hzs : z.cells.size = es := by
  have := (hl _ _ hE).len
  rw [<-hzcE, Array.length_toList, <-hszE, hisz] at this; exact this
 subst hisz
 subst hiby
 have grown : ∀ (olds news : List Value) (old : Nat), olds.length = n * i0.size -> news.length = m * i0.size ->
   (olds.toArray ++ news.toArray ++ Builtin.zeroCells z.cells (grownCap w (n + m) old E - (n + m))).size = grownCap w (n + m) old E * i0.size /\
   (olds.toArray ++ news.toArray ++ Builtin.zeroCells z.cells (grownCap w (n + m) old E - (n + m))).toList.take ((n + m) * i0.size) = olds ++ news := by
  intro olds news old h1 h2
  have hge := grownCap_ge w (n + m) old E
  refine ⟨?_, ?_⟩
  ·simp only [Array.size_append, List.size_toArray, size_zeroCells, hzs, h1, h2, <-Nat.add_mul]
   congr 1
   omega
  ·have hlen : (olds ++ news).length = (n + m) * i0.size := by rw [List.length_append, h1, h2, Nat.add_mul]
   simp only [Array.toList_append, List.append_assoc]
   rw [<-List.append_assoc, <-hlen]
   exact List.take_left
 have hcapm : ∀ old, grownCap w (n + m) old E ≤ maxLen := fun old => grownCap_le_maxLen w (n + m) old E (by simp only [maxLen]; omega)
 rcases hsrc with ⟨rfl, rfl⟩ | ⟨ad, news, rfl, hln, hnews, h1, hC⟩
 ·left
  refine ⟨?_, rfl⟩
  rcases hown.2 with ⟨rfl, rfl⟩ | ⟨g, cap, cur, rfl, _, hg, hnc, _⟩
  ·simp [Builtin.append_, run_underlying hu, sizeOf, typeInfo, hinfo, Builtin.lenOf, Builtin.firstCells]
  ·simp [Builtin.append_, run_underlying hu, sizeOf, typeInfo, hinfo, Builtin.lenOf, Builtin.firstCells, hnc, storeCells]
 ·rcases hown.2 with ⟨rfl, rfl⟩ | ⟨g, cap, cur, rfl, hbg, hg, hnc, hcm, hcs, htake⟩
  ·have hx : vs = [] := List.eq_nil_of_length_eq_zero (by simpa using hown.1)
   subst hx
   by_cases hm : m = 0
   ·subst hm
    left
    refine ⟨?_, rfl⟩
    simp [Builtin.append_, run_underlying hu, sizeOf, typeInfo, hinfo, Builtin.lenOf, Builtin.firstCells, loadCells, loadCellsFrom]
   ·right
    refine ⟨news, hln, hC, .inr ?_⟩
    have hr := run_append_nil (P := P) w t ty E i0 z hu hinfo hzE ad m c news hln hnews (by omega) (by omega) (by have hb := hb1; simp only [Nat.zero_add] at hb; omega)
    obtain ⟨g1, g2⟩ := grown [] news 0 (by simp) hln
    have hge := grownCap_ge w (0 + m) 0 E
    simp only [Nat.zero_add, List.nil_append, Array.empty_append] at g1 g2 hge hcapm ⊢
    exact ⟨_, _, hge, hcapm 0, g1, g2, hr⟩
  ·right
   refine ⟨news, hln, hC, ?_⟩
   by_cases hroom : n + m ≤ cap
   ·left
    have hfit : n * i0.size + news.length ≤ cur.size := by rw [hln, hcs, <-Nat.add_mul]; exact Nat.mul_le_mul_right _ hroom
    exact ⟨g, cap, cur, rfl, hg, hroom, hcm, hcs, htake, run_append_room (P := P) w t ty E i0 hu hinfo g n cap cur hg ad m c news hln hnews h1 hroom hfit⟩
   ·right
    have holds : ∀ (j : Nat) u, vs[j]? = some u -> w.cell? ((⟨g, 0, none⟩ : Addr).add j) = some u := hown.cells (g := g) rfl
    have hr := run_append_grow (P := P) w t ty E i0 z hu hinfo hzE ⟨g, 0, none⟩ n cap vs hown.1 holds ad m c news hln hnews (by omega) (by omega) (growslice_fits (by omega) hb1)
    obtain ⟨g1, g2⟩ := grown vs news cap hown.1 hln
    exact ⟨_, _, grownCap_ge w (n + m) cap E, hcapm cap, g1, g2, hr⟩
theorem cat_get {X Y : CV} {n m k k' : Nat} {f g : Nat -> Nat -> CV} (hX : X = .sl n k f) (hY : Y = .sl m k' g) : catV X Y = .sl (n + m) k (fun e q => bif Nat.blt e n then f e q else g (e - n) q) := by
 subst hX; subst hY; rfl
theorem cat_rep {n m k : Nat} {f g : Nat -> Nat -> CV} {vs news : List Value} (hvl : vs.length = n * k) (hv : ∀ e q, e < n -> q < k -> ∃ u, vs[e * k + q]? = some u /\ RepV o w (f e q) u)
  (hn : ∀ e q, e < m -> q < k -> ∃ u, news[e * k + q]? = some u /\ RepV o w (g e q) u) (e q : Nat) (he : e < n + m) (hq : q < k) :
  ∃ u, (vs ++ news)[e * k + q]? = some u /\ RepV o w (bif Nat.blt e n then f e q else g (e - n) q) u := by
 by_cases hlt : e < n
 ·have hb : Nat.blt e n = true := by simpa [Nat.blt, Nat.succ_le_iff] using hlt
  obtain ⟨u, hu, hr⟩ := hv e q hlt hq
  rw [hb]
  exact ⟨u, by rw [List.getElem?_append_left (by rw [hvl]; exact one_lt hlt hq)]; exact hu, hr⟩
 ·have hb : Nat.blt e n = false := by
   rw [Bool.eq_false_iff]; intro ht; simp [Nat.blt, Nat.succ_le_iff] at ht; omega
  obtain ⟨u, hu, hr⟩ := hn (e - n) q (by omega) hq
  rw [hb]
  refine ⟨u, ?_, hr⟩
  have : n * k ≤ e * k := Nat.mul_le_mul_right k (by omega)
  rw [List.getElem?_append_right (by rw [hvl]; omega), hvl, <-hu, Nat.sub_mul]
  congr 1; omega
theorem Sat.inPlace (hs : Sat o h A tm w) {i d : Nat} (hd : d < A.n) (hf : qW9 A d = true) {b E cap n k : Nat} {cur' : Array Value} {cur : Array Value} {f : Nat -> Nat -> CV}
  (hb : w.heap[b]? = some (.cells cur E (0, 0))) (ht : o b = .hd i) (hnc : n ≤ cap) (hcm : cap ≤ maxLen) (hsz : cur'.size = cap * k)
  (hv : ∀ e q, e < n -> q < k -> ∃ u, cur'[e * k + q]? = some u /\ RepV o w (f e q) u) :
  ∃ o' h', Sat o' h' ⟨A.n, (d, .e (.r d)) :: A.sl, (d, .own E (.sl n k f)) :: (i, .gone) :: A.rs⟩ (tm.setIfInBounds d (.slice (some ⟨b, 0, none⟩) n cap)) (w.setRow b cur') /\ Ext o w o' (w.setRow b cur') := by
 have hoth : ∀ b', b' ≠ b -> (w.setRow b cur').heap[b']? = w.heap[b']? := fun b' hne => setRow_other w b b' cur' hne
 have hoo : ∀ b', b' ≠ b -> updO o b (.hd d) b' = o b' := fun b' hne => by simp [updO, hne]
 have hk : Keep o w (updO o b (.hd d)) (w.setRow b cur') := fun b' hb' => by
  have hne : b' ≠ b := by rintro rfl; rw [ht] at hb'; cases hb'
  exact ⟨(hoo b' hne).trans hb', hoth b' hne⟩
 have hc : Chg o h w (updO o b (.hd d)) (updH h d (.slice (some ⟨b, 0, none⟩) n cap)) (w.setRow b cur') (fun j => j = i) A := by
  refine ⟨hk, fun j b' hj hb' => ?_, fun j hj => ?_⟩
  ·have hne : b' ≠ b := by rintro rfl; rw [ht] at hb'; cases hb'; exact hj rfl
   exact ⟨(hoo b' hne).trans hb', hoth b' hne⟩
  ·have : j = d := Classical.byContradiction fun hne => hj (by simp [updH, hne])
   subst this; exact hf
 have hblt : b < w.heap.size := (hs.tags b).1 i ht
 refine ⟨updO o b (.hd d), updH h d (.slice (some ⟨b, 0, none⟩) n cap), ⟨by simp [hs.size], fun b' => ?_, fun s x hl => ?_, fun j r hl => ?_⟩, ⟨by simp, rfl, rfl, rfl, Nat.le_refl _, fun b' hb' _ => hk b' hb', fun b' hb' _ => ?_⟩⟩
 ·rw [size_setRow]
  by_cases hne : b' = b
  ·subst hne; exact ⟨fun _ _ => hblt, fun _ => hblt⟩
  ·rw [hoo b' hne]; exact hs.tags b'
 ·rw [qQ3] at hl
  have hsz' := hs.size
  split at hl
  ·rename_i e
   subst e
   cases hl
   have : (tm.setIfInBounds d (.slice (some ⟨b, 0, none⟩) n cap)).getD d undef = .slice (some ⟨b, 0, none⟩) n cap := by
    rw [Array.getD_eq_getD_getElem?, Array.getElem?_setIfInBounds_self]; simp [hsz', hd]
   rw [this]; simp [SvOk, EvOk, updH]
  ·rename_i hne
   have : (tm.setIfInBounds d (.slice (some ⟨b, 0, none⟩) n cap)).getD s undef = tm.getD s undef := by
    rw [Array.getD_eq_getD_getElem?, Array.getElem?_setIfInBounds_ne hne, <-Array.getD_eq_getD_getElem?]
   rw [this]; exact hc.slot hs s x hl
 ·rw [qQ3] at hl
  split at hl
  ·rename_i e
   subst e
   cases hl
   have hle : n * k ≤ cap * k := Nat.mul_le_mul_right k hnc
   refine ⟨cur'.toList.take (n * k), ⟨by rw [List.length_take, Array.length_toList, hsz]; omega, .inr ⟨b, cap, cur', by simp [updH], Nat.zero_le _, setRow_heap w b cur _ E _ hb, hnc, hcm, hsz, rfl⟩⟩, ?_, ?_⟩
   ·intro b' hb'
    simp [updH, Value.ownBlock] at hb'
    subst hb'
    simp [updO]
   ·intro e q he hq
    obtain ⟨u, hu, hx⟩ := hv e q he hq
    refine ⟨u, ?_, hx.keep hk⟩
    rw [List.getElem?_take, if_pos (one_lt he hq)]
    simpa using hu
  ·rename_i hne
   rw [qQ3] at hl
   split at hl
   ·cases hl; trivial
   ·rename_i hne2; exact hc.resOk hs j r (fun e => hne2 e.symm) hl
 ·have hne : b' ≠ b := by rintro rfl; rw [ht] at hb'; cases hb'
  exact ⟨(hoo b' hne).trans hb', hoth b' hne⟩
def moveO (o : Nat -> Tag) (i d : Nat) : Nat -> Tag := fun b => match o b with
 | .hd j => if j = i then .hd d else .hd j
 | t => t
theorem moveO_sh {i d b : Nat} (hb : o b = .sh) : moveO o i d b = .sh := by simp [moveO, hb]
theorem moveO_no {i d b : Nat} (hb : o b = .no) : moveO o i d b = .no := by simp [moveO, hb]
theorem moveO_hd {i d b j : Nat} (hj : j ≠ i) (hb : o b = .hd j) : moveO o i d b = .hd j := by simp [moveO, hb, hj]
theorem moveO_self {i d b : Nat} (hb : o b = .hd i) : moveO o i d b = .hd d := by simp [moveO, hb]
theorem Sat.rename (hs : Sat o h A tm w) {i d E n k : Nat} {f g : Nat -> Nat -> CV} (hd : d < A.n) (hf : qW9 A d = true) (hi : lk A.rs i = some (.own E (.sl n k f))) (hfg : ∀ e q, e < n -> q < k -> f e q = g e q) :
  ∃ o' h', Sat o' h' ⟨A.n, (d, .e (.r d)) :: A.sl, (d, .own E (.sl n k g)) :: (i, .gone) :: A.rs⟩ (tm.setIfInBounds d (h i)) w /\ Ext o w o' w := by
 obtain ⟨vs, hown, htag, hvs⟩ := hs.res i _ hi
 have hc : Chg o h w (moveO o i d) (updH h d (h i)) w (fun j => j = i) A := by
  refine ⟨fun b hb => ⟨moveO_sh hb, rfl⟩, fun j b hj hb => ⟨moveO_hd hj hb, rfl⟩, fun j hj => ?_⟩
  have : j = d := Classical.byContradiction fun hne => hj (by simp [updH, hne])
  subst this; exact hf
 refine ⟨moveO o i d, updH h d (h i), ⟨by simp [hs.size], fun b => ?_, fun s x hl => ?_, fun j r hl => ?_⟩, ⟨Nat.le_refl _, rfl, rfl, rfl, Nat.le_refl _, fun b hb _ => ⟨moveO_sh hb, rfl⟩, fun b hb _ => ⟨moveO_no hb, rfl⟩⟩⟩
 ·cases hob : o b with
  | no => simp [moveO, hob]
  | sh => have := (hs.tags b).2 hob; simp [moveO, hob, this]
  | hd j' => have := (hs.tags b).1 j' hob; simp only [moveO, hob]; split <;> exact ⟨fun _ _ => this, fun _ => this⟩
 ·rw [qQ3] at hl
  have hsz := hs.size
  split at hl
  ·rename_i e
   subst e
   cases hl
   have : (tm.setIfInBounds d (h i)).getD d undef = h i := by
    rw [Array.getD_eq_getD_getElem?, Array.getElem?_setIfInBounds_self]; simp [hsz, hd]
   rw [this]; simp [SvOk, EvOk, updH]
  ·rename_i hne
   have : (tm.setIfInBounds d (h i)).getD s undef = tm.getD s undef := by
    rw [Array.getD_eq_getD_getElem?, Array.getElem?_setIfInBounds_ne hne, <-Array.getD_eq_getD_getElem?]
   rw [this]; exact hc.slot hs s x hl
 ·rw [qQ3] at hl
  split at hl
  ·rename_i e
   subst e
   cases hl
   refine ⟨vs, by simpa [updH] using hown, fun b hb => moveO_self (htag b (by simpa [updH] using hb)), fun e q he hq => ?_⟩
   obtain ⟨u, hu, hr⟩ := hvs e q he hq
   exact ⟨u, hu, by rw [<-hfg e q he hq]; exact hr.keep hc.keep⟩
  ·rename_i hne
   rw [qQ3] at hl
   split at hl
   ·cases hl; trivial
   ·rename_i hne2; exact hc.resOk hs j r (fun e => hne2 e.symm) hl
theorem evA_ok (hl : qJ1 P lay) {op : Oper} {A' : St} {φ : Prop} (he : evA lay A op = some (A', φ)) (hφ : φ) : OpStep P op A A' := by
 intro o h tm w hs
 unfold evA at he
 split at he
 ·rename_i c d ho hd
  split at he
  ·rename_i s x t t' hc ha ht
   split at he
   ·rename_i sz ag E es bytes zz htt hT hlt hf
    have htt := Nat.eq_of_beq_eq_true htt
    subst htt
    have ha' : c.args = #[s, x] := by cases hcc : c.args; simp_all
    have ht' : c.argTypes = #[t', t'] := by cases hcc : c.argTypes; simp_all
    have hlt : d < A.n := by simpa [Nat.blt, Nat.succ_le_iff] using hlt
    have hex : ∀ {v w'}, (Builtin.append_ #[t', t'] op.type #[evl tm s, evl tm x]).run P w = .ok v w' -> (execOp (evl tm) op).run P w = .ok (.value v) w' := fun {v w'} hr => by
     simp only [execOp, ho, resolve, hc, invoke, builtin, ha', ht']
     simp [hr]
    have fin : ∀ {v w'}, (Builtin.append_ #[t', t'] op.type #[evl tm s, evl tm x]).run P w = .ok v w' -> (∃ o' h', Sat o' h' A' (tm.setIfInBounds d v) w' /\ Ext o w o' w') ->
      ∃ x v w' o' h', (execOp (evl tm) op).run P w = .ok x w' /\ (x = .value v ∨ (x = .skip /\ v = undef)) /\ Sat o' h' A' ((⟨tm, []⟩ : Act).put op.dst v).tmps w' /\ Ext o w o' w' := by
     rintro v w' hr ⟨o', h', h1, h2⟩
     exact ⟨_, v, w', o', h', hex hr, .inl rfl, by simpa only [Act.put, hd] using h1, h2⟩
    split at he
    ·rename_i i p rE hrs hE
     split at he
     ·rename_i E' X Y q hi hsrc
      split at he
      ·rename_i n k f m k' g
       split at he
       ·rename_i hb1 hb2 hb3
        have hb1 := Nat.eq_of_beq_eq_true hb1
        have hb2 := Nat.eq_of_beq_eq_true hb2
        have hb3 := Nat.eq_of_beq_eq_true hb3
        subst hb1; subst hb2; subst hb3
        simp only [Option.some.injEq, Prod.mk.injEq] at he
        obtain ⟨rfl, rfl⟩ := he
        obtain ⟨hp, hq, hby, hnm⟩ := hφ
        have hsv : evl tm s = h i := qY6 hs hrs hp
        obtain ⟨a, cc, hxv, hsrc'⟩ := srcOf_ok hs hsrc hq rfl
        obtain ⟨vs, hown, htag, hvs⟩ := hs.res i _ hi
        have hrun := app_run (P := P) (ty := op.type) (c := cc) hl hT hE hown (fun news => ∀ e q, e < m -> q < _ -> ∃ u, news[e * _ + q]? = some u /\ RepV o w (g e q) u) hsrc' hby hnm
        rw [hsv, hxv] at fin
        rcases hrun with ⟨hr, rfl⟩ | ⟨news, hln, hC, hcase⟩
        ·refine fin hr ?_
         rw [cat_get rfl rfl]
         refine Sat.rename hs hlt hf hi fun e q he hq => ?_
         have hb : Nat.blt e n = true := by simpa [Nat.blt, Nat.succ_le_iff] using he
         rw [hb]; rfl
        ·have hcat := cat_rep hown.1 hvs hC
         rw [cat_get rfl rfl]
         rcases hcase with ⟨g', cap, cur, hv, hheap, hroom, hcm, hcs, htake, hr⟩ | ⟨cap, cur', hge, hcm, hcs, htake, hr⟩
         ·refine fin hr ?_
          refine Sat.inPlace hs hlt hf hheap (htag g' (by rw [hv]; rfl)) hroom hcm ?_ fun e q he hq => ?_
          ·have hle := Nat.mul_le_mul_right k' hroom
           rw [Nat.add_mul] at hle
           simp only [List.size_toArray, List.length_append, List.length_take, List.length_drop, Array.length_toList, hcs, hln]
           omega
          ·obtain ⟨u, hu, hx⟩ := hcat e q he hq
           refine ⟨u, ?_, hx⟩
           rw [List.getElem?_toArray, htake]
           have hlt2 := one_lt he hq
           rw [List.getElem?_append_left (by rw [List.length_append, hown.1, hln, <-Nat.add_mul]; exact hlt2)]
           exact hu
         ·refine fin hr ?_
          obtain ⟨o', h', hs', hx'⟩ := Sat.newRow (hs.drew) hlt hf (E := E') (f := fun e q => bif Nat.blt e n then f e q else g (e - n) q) hge hcm hcs (fun e q he hq => by
           obtain ⟨u, hu, hx⟩ := hcat e q he hq
           refine ⟨u, ?_, hx.drew⟩
           rw [<-htake, List.getElem?_take, if_pos (one_lt he hq)] at hu
           simpa using hu)
          exact ⟨o', h', hs'.gone i rfl, (Ext.drew o w).trans hx'⟩
       ·cases he
      ·cases he
     ·cases he
    ·rename_i p rE hrs hE
     split at he
     ·rename_i Y q hsrc
      split at he
      ·rename_i m k' g
       split at he
       ·rename_i hb3
        have hb3 := Nat.eq_of_beq_eq_true hb3
        subst hb3
        simp only [Option.some.injEq, Prod.mk.injEq] at he
        obtain ⟨rfl, rfl⟩ := he
        obtain ⟨hp, hq, hby, hnm⟩ := hφ
        have hsv : evl tm s = .slice none 0 0 := (qY6 hs hrs hp).1
        obtain ⟨a, cc, hxv, hsrc'⟩ := srcOf_ok hs hsrc hq rfl
        have hrun := app_run (P := P) (ty := op.type) (c := cc) hl hT hE (World.ownsRow_nil w 0 E k') (fun news => ∀ e q, e < m -> q < k' -> ∃ u, news[e * k' + q]? = some u /\ RepV o w (g e q) u) hsrc' (by rw [Nat.zero_add]; exact hby) (by omega)
        rw [hsv, hxv] at fin
        rcases hrun with ⟨hr, rfl⟩ | ⟨news, hln, hC, hcase⟩
        ·refine fin hr ?_
         have hchg : Chg o h w o (updH h d (.slice none 0 0)) w (fun _ => False) A := by
          refine ⟨fun b hb => ⟨hb, rfl⟩, fun j b _ hb => ⟨hb, rfl⟩, fun j hj => ?_⟩
          have : j = d := Classical.byContradiction fun hne => hj (by simp [updH, hne])
          subst this; exact hf
         refine ⟨o, updH h d (.slice none 0 0), ⟨by simp [hs.size], hs.tags, fun s x hl' => ?_, fun j r hl' => ?_⟩, Ext.refl o w⟩
         ·rw [qQ3] at hl'
          have hsz := hs.size
          split at hl'
          ·rename_i e
           subst e
           cases hl'
           have : (tm.setIfInBounds d (Value.slice none 0 0)).getD d undef = .slice none 0 0 := by
            rw [Array.getD_eq_getD_getElem?, Array.getElem?_setIfInBounds_self]; simp [hsz, hlt]
           rw [this]; simp [SvOk, EvOk, updH]
          ·rename_i hne
           have : (tm.setIfInBounds d (Value.slice none 0 0)).getD s undef = tm.getD s undef := by
            rw [Array.getD_eq_getD_getElem?, Array.getElem?_setIfInBounds_ne hne, <-Array.getD_eq_getD_getElem?]
           rw [this]; exact hchg.slot hs s x hl'
         ·rw [qQ3] at hl'
          split at hl'
          ·rename_i e
           subst e
           cases hl'
           exact ⟨[], by simpa [updH] using World.ownsRow_nil w 0 E k', fun b hb => by simp [updH, Value.ownBlock] at hb, fun e q he => by omega⟩
          ·rename_i hne
           rw [qQ3, if_neg hne] at hl'
           exact hchg.resOk hs j r (fun e => e) hl'
        ·rcases hcase with ⟨g', cap, cur, hv, _⟩ | ⟨cap, cur', hge, hcm, hcs, htake, hr⟩
         ·cases hv
         ·rw [Nat.zero_add] at hge htake hr
          refine fin hr ?_
          obtain ⟨o', h', hs', hx'⟩ := Sat.newRow (hs.drew) hlt hf (E := E) (f := g) hge hcm hcs (fun e q he hq => by
           obtain ⟨u, hu, hx⟩ := hC e q he hq
           refine ⟨u, ?_, hx.drew⟩
           rw [List.nil_append] at htake
           rw [<-htake, List.getElem?_take, if_pos (one_lt he hq)] at hu
           simpa using hu)
          exact ⟨o', h', hs'.gone d rfl, (Ext.drew o w).trans hx'⟩
       ·cases he
      ·cases he
     ·cases he
    ·cases he
   ·cases he
  ·cases he
 ·cases he
end
end Go.Sy
namespace Go.Sy
variable [Drw]
section
variable {P : Program} {lay : Lay} {A A' : St} {Q : Exit -> St -> Prop}
def evF (lay : Lay) (A : St) (op : Oper) : Option (List (Nat × SV) × List (Nat × Res) × Prop) :=
 match op.op with
 | .alloc _ => match evE lay A op with
   | some (⟨_, x :: _, r :: _⟩, φ) => some ([x], [r], φ)
   | _ => none
 | .box _ _ => match evE lay A op with
   | some (⟨_, x :: _, r :: _⟩, φ) => some ([x], [r], φ)
   | _ => none
 | .buildSlice _ _ _ => match evE lay A op with
   | some (⟨_, x :: _, r :: _⟩, φ) => some ([x], [r], φ)
   | _ => none
 | .makeSlice _ _ _ => match evE lay A op with
   | some (⟨_, x :: _, r :: _⟩, φ) => some ([x], [r], φ)
   | _ => none
 | .store _ _ _ => match evS lay A op with
   | some (⟨_, _, r :: _⟩, φ) => some ([], [r], φ)
   | _ => none
 | .call _ => match evA lay A op with
   | some (⟨_, x :: _, r :: r' :: _⟩, φ) => some ([x], [r, r'], φ)
   | _ => none
 | _ => none
theorem evE_shape {op : Oper} {φ : Prop} (he : evE lay A op = some (A', φ)) : ∃ x r, A' = ⟨A.n, x :: A.sl, r :: A.rs⟩ := by
 unfold evE at he
 repeat' split at he
 all_goals first
  | (simp only [Option.some.injEq, Prod.mk.injEq] at he; obtain ⟨rfl, _⟩ := he; exact ⟨_, _, rfl⟩)
  | cases he
theorem evS_shape {op : Oper} {φ : Prop} (he : evS lay A op = some (A', φ)) : ∃ r, A' = ⟨A.n, A.sl, r :: A.rs⟩ := by
 unfold evS at he
 repeat' split at he
 all_goals first
  | (simp only [Option.some.injEq, Prod.mk.injEq] at he; obtain ⟨rfl, _⟩ := he; exact ⟨_, rfl⟩)
  | cases he
theorem evA_shape {op : Oper} {φ : Prop} (he : evA lay A op = some (A', φ)) : ∃ x r r', A' = ⟨A.n, x :: A.sl, r :: r' :: A.rs⟩ := by
 unfold evA at he
 repeat' split at he
 all_goals first
  | (simp only [Option.some.injEq, Prod.mk.injEq] at he; obtain ⟨rfl, _⟩ := he; exact ⟨_, _, _, rfl⟩)
  | cases he
theorem evE_ok (hl : qJ1 P lay) {op : Oper} {φ : Prop} (he : evE lay A op = some (A', φ)) (hφ : φ) : OpStep P op A A' := by
 cases ho : op.op with
 | alloc T => cases hd : op.dst with
   | some d => exact evE_alloc hl ho hd he
   | none => simp [evE, ho, hd] at he
 | box T x => cases hd : op.dst with
   | some d => exact evE_box hl ho hd he hφ
   | none => simp [evE, ho, hd] at he
 | buildSlice T l ps => cases hd : op.dst with
   | some d => exact evE_build hl ho hd he hφ
   | none => simp [evE, ho, hd] at he
 | makeSlice T l c => cases hd : op.dst with
   | some d => exact evE_make hl ho hd he hφ
   | none => simp [evE, ho, hd] at he
 | _ => simp [evE, ho] at he
theorem evF_ok (hl : qJ1 P lay) {op : Oper} {xs : List (Nat × SV)} {rs : List (Nat × Res)} {φ : Prop} (he : evF lay A op = some (xs, rs, φ)) (hφ : φ) :
  OpStep P op A ⟨A.n, xs ++ A.sl, rs ++ A.rs⟩ := by
 have kE : ∀ {xs rs φ}, (match evE lay A op with | some (⟨_, x :: _, r :: _⟩, φ) => some ([x], [r], φ) | _ => none) = some (xs, rs, φ) -> φ -> OpStep P op A ⟨A.n, xs ++ A.sl, rs ++ A.rs⟩ := by
  intro xs rs φ he hφ
  split at he
  ·rename_i n x sl r rs' φ' hE
   simp only [Option.some.injEq, Prod.mk.injEq] at he
   obtain ⟨rfl, rfl, rfl⟩ := he
   obtain ⟨x', r', e⟩ := evE_shape hE
   simp only [St.mk.injEq, List.cons.injEq] at e
   obtain ⟨rfl, ⟨rfl, rfl⟩, rfl, rfl⟩ := e
   exact evE_ok hl hE hφ
  ·cases he
 unfold evF at he
 split at he
 ·exact kE he hφ
 ·exact kE he hφ
 ·exact kE he hφ
 ·exact kE he hφ
 ·split at he
  ·rename_i n sl r rs' φ' hE
   simp only [Option.some.injEq, Prod.mk.injEq] at he
   obtain ⟨rfl, rfl, rfl⟩ := he
   obtain ⟨r', e⟩ := evS_shape hE
   simp only [St.mk.injEq, List.cons.injEq] at e
   obtain ⟨rfl, rfl, rfl, rfl⟩ := e
   exact evS_ok hl hE hφ
  ·cases he
 ·split at he
  ·rename_i n x sl r r2 rs' φ' hE
   simp only [Option.some.injEq, Prod.mk.injEq] at he
   obtain ⟨rfl, rfl, rfl⟩ := he
   obtain ⟨x', r', r2', e⟩ := evA_shape hE
   simp only [St.mk.injEq, List.cons.injEq] at e
   obtain ⟨rfl, ⟨rfl, rfl⟩, rfl, rfl, rfl⟩ := e
   exact evA_ok hl hE hφ
  ·cases he
 ·cases he
def step1 (lay : Lay) : List K -> Exit -> St -> Option (List K × Exit × St × Prop)
 | .code c :: k, .normal, A => match c with
   | .seq x y => some (.code x :: .code y :: k, .normal, A, True)
   | .skip => some (k, .normal, A, True)
   | .label _ => some (k, .normal, A, True)
   | .block id c => some (.code c :: .blk id :: k, .normal, A, True)
   | .region _ ops false => some (.ops ops ops.toList :: k, .normal, A, True)
   | .exit id => some (k, .exit id, A, True)
   | .ret => some (k, .ret, A, True)
   | _ => none
 | .ops all l :: k, .normal, ⟨n, sl, rs⟩ => match l with
   | [] => some (k, .normal, ⟨n, sl, rs⟩, True)
   | o :: rest => match o.guard with
     | none => match evP lay ⟨n, sl, rs⟩ o, o.dst with
       | some (sv, φ), some d => match Nat.blt d n with
         | true => some (.ops all rest :: k, .normal, ⟨n, (d, sv) :: sl, rs⟩, φ)
         | false => none
       | _, _ => match evF lay ⟨n, sl, rs⟩ o with
         | some ([x], [r], φ) => some (.ops all rest :: k, .normal, ⟨n, x :: sl, r :: rs⟩, φ)
         | some ([], [r], φ) => some (.ops all rest :: k, .normal, ⟨n, sl, r :: rs⟩, φ)
         | some ([x], [r, r'], φ) => some (.ops all rest :: k, .normal, ⟨n, x :: sl, r :: r' :: rs⟩, φ)
         | _ => none
     | some (j, want) => match gdOf ⟨n, sl, rs⟩ all j want, evP lay ⟨n, sl, rs⟩ o, o.dst with
       | some b, some (.e x, φ), some d => match Nat.blt d n with
         | true => some (.ops all rest :: k, .normal, ⟨n, (d, .e (.gd b x)) :: sl, rs⟩, b = true -> φ)
         | false => none
       | _, _, _ => none
 | .blk _ :: k, .normal, A => some (k, .normal, A, True)
 | .code _ :: k, .exit id, A => some (k, .exit id, A, True)
 | .ops _ _ :: k, .exit id, A => some (k, .exit id, A, True)
 | .blk id' :: k, .exit id, A => match Nat.beq id' id with
   | true => some (k, .normal, A, True)
   | false => some (k, .exit id, A, True)
 | _ :: k, .ret, A => some (k, .ret, A, True)
 | _, _, _ => none
theorem step1_ok (hl : qJ1 P lay) {k k' : List K} {e e' : Exit} {φ : Prop} (h : step1 lay k e A = some (k', e', A', φ)) (hφ : φ) (hn : KW P k' e' A' Q) : KW P k e A Q := by
 unfold step1 at h
 split at h
 ·split at h <;> first
   | (simp only [Option.some.injEq, Prod.mk.injEq] at h; obtain ⟨rfl, rfl, rfl, _⟩ := h
      first | exact KW.seq hn | exact KW.skip hn | exact KW.label hn | exact KW.block hn | exact KW.region hn | exact KW.exit hn | exact KW.ret hn)
   | cases h
 ·rename_i all l k0 n sl rs
  split at h
  ·simp only [Option.some.injEq, Prod.mk.injEq] at h; obtain ⟨rfl, rfl, rfl, _⟩ := h
   exact KW.ops_nil hn
  ·rename_i o rest
   split at h
   ·rename_i hg
    split at h
    ·rename_i sv φ' d hev hd
     split at h
     ·rename_i hlt
      simp only [Option.some.injEq, Prod.mk.injEq] at h; obtain ⟨rfl, rfl, rfl, rfl⟩ := h
      exact KW.op hg (OpStep.pure hl hev hd (by simpa [Nat.blt, Nat.succ_le_iff] using hlt) hφ) hn
     ·cases h
    ·split at h
     ·rename_i x r φ' hF
      simp only [Option.some.injEq, Prod.mk.injEq] at h; obtain ⟨rfl, rfl, rfl, rfl⟩ := h
      exact KW.op hg (evF_ok hl hF hφ) hn
     ·rename_i r φ' hF
      simp only [Option.some.injEq, Prod.mk.injEq] at h; obtain ⟨rfl, rfl, rfl, rfl⟩ := h
      exact KW.op hg (evF_ok hl hF hφ) hn
     ·rename_i x r r' φ' hF
      simp only [Option.some.injEq, Prod.mk.injEq] at h; obtain ⟨rfl, rfl, rfl, rfl⟩ := h
      exact KW.op hg (evF_ok hl hF hφ) hn
     ·cases h
   ·rename_i j want hg
    split at h
    ·rename_i b x φ' d hb hev hd
     split at h
     ·rename_i hlt
      simp only [Option.some.injEq, Prod.mk.injEq] at h; obtain ⟨rfl, rfl, rfl, rfl⟩ := h
      exact KW.gd hl hg hb hev hd (by simpa [Nat.blt, Nat.succ_le_iff] using hlt) hφ hn
     ·cases h
    ·cases h
 ·simp only [Option.some.injEq, Prod.mk.injEq] at h; obtain ⟨rfl, rfl, rfl, _⟩ := h; exact KW.blk hn
 ·simp only [Option.some.injEq, Prod.mk.injEq] at h; obtain ⟨rfl, rfl, rfl, _⟩ := h; exact KW.pop_code (by simp) hn
 ·simp only [Option.some.injEq, Prod.mk.injEq] at h; obtain ⟨rfl, rfl, rfl, _⟩ := h; exact KW.pop_ops (by simp) hn
 ·rename_i id' k0 id A0
  split at h
  ·rename_i hb
   have hb := Nat.eq_of_beq_eq_true hb
   subst hb
   simp only [Option.some.injEq, Prod.mk.injEq] at h; obtain ⟨rfl, rfl, rfl, _⟩ := h; exact KW.blk_exit hn
  ·rename_i hb
   simp only [Option.some.injEq, Prod.mk.injEq] at h; obtain ⟨rfl, rfl, rfl, _⟩ := h
   exact KW.blk_other (by rintro rfl; simp at hb) hn
 ·rename_i A0 x k0
  simp only [Option.some.injEq, Prod.mk.injEq] at h; obtain ⟨rfl, rfl, rfl, _⟩ := h
  cases x with
  | code c => exact KW.pop_code (by simp) hn
  | ops all l => exact KW.pop_ops (by simp) hn
  | blk id => exact KW.blk_ret hn
 ·cases h
def run (lay : Lay) : Nat -> List K -> Exit -> St -> Prop -> List K × Exit × St × Prop
 | 0, k, e, A, φ => (k, e, A, φ)
 | f + 1, k, e, A, φ => match step1 lay k e A with
   | some (k', e', A', ψ) => run lay f k' e' A' (φ /\ ψ)
   | none => (k, e, A, φ)
theorem run_ok (hl : qJ1 P lay) : ∀ (f : Nat) {k k' : List K} {e e' : Exit} {A A' : St} {φ φ' : Prop}, run lay f k e A φ = (k', e', A', φ') -> φ' -> KW P k' e' A' Q -> φ /\ KW P k e A Q
 | 0, k, k', e, e', A, A', φ, φ', h, hφ, hn => by
   simp only [run, Prod.mk.injEq] at h
   obtain ⟨rfl, rfl, rfl, rfl⟩ := h
   exact ⟨hφ, hn⟩
 | f + 1, k, k', e, e', A, A', φ, φ', h, hφ, hn => by
   simp only [run] at h
   split at h
   ·rename_i k1 e1 A1 ψ hs
    obtain ⟨⟨h1, h2⟩, h3⟩ := run_ok hl f h hφ hn
    exact ⟨h1, step1_ok hl hs h2 h3⟩
   ·simp only [Prod.mk.injEq] at h
    obtain ⟨rfl, rfl, rfl, rfl⟩ := h
    exact ⟨hφ, hn⟩
theorem KW.run (hl : qJ1 P lay) (f : Nat) {k k' : List K} {e e' : Exit} {φ : Prop} (h : Sy.run lay f k e A True = (k', e', A', φ)) (hφ : φ) (hn : KW P k' e' A' Q) : KW P k e A Q :=
 (run_ok hl f h hφ hn).2
end
end Go.Sy
namespace Go.Sy
variable [Drw]
def rn (ρ : List (Nat × Nat)) (j : Nat) : Nat := match lk ρ j with
 | some i => i
 | none => j
def rnL (ρ : List (Nat × Nat)) : List Nat -> List Nat
 | [] => []
 | j :: l => rn ρ j :: rnL ρ l
theorem rnL_eq (ρ : List (Nat × Nat)) : ∀ l, rnL ρ l = l.map (rn ρ)
 | [] => rfl
 | j :: l => by simp [rnL, rnL_eq ρ l]
def EV.ren (ρ : List (Nat × Nat)) : EV -> EV
 | .r i => .r (rn ρ i)
 | .pt i k e q => .pt (rn ρ i) k e q
 | .fn g hs => .fn g (rnL ρ hs)
 | .gd b x => .gd b (x.ren ρ)
 | .ah cs q i => .ah cs q (rn ρ i)
 | x => x
def renL (ρ : List (Nat × Nat)) : List EV -> List EV
 | [] => []
 | x :: l => x.ren ρ :: renL ρ l
theorem renL_eq (ρ : List (Nat × Nat)) : ∀ l, renL ρ l = l.map (EV.ren ρ)
 | [] => rfl
 | x :: l => by simp [renL, renL_eq ρ l]
def SV.ren (ρ : List (Nat × Nat)) : SV -> SV
 | .e x => .e (x.ren ρ)
 | .tup xs => .tup (renL ρ xs)
def Res.ren (ρ : List (Nat × Nat)) : Res -> Res
 | .box T cs bk => .box T (renL ρ cs) bk
 | r => r
def inv : List (Nat × Nat) -> Nat -> Option Nat
 | [], _ => none
 | (j, i') :: ρ, i => bif Nat.beq i' i then some j else inv ρ i
def oneB : List (Nat × Nat) -> Bool
 | [] => true
 | (j, i) :: ρ => (match lk ρ j with | some _ => false | none => true) && ((match inv ρ i with | some _ => false | none => true) && oneB ρ)
theorem inv_of {ρ : List (Nat × Nat)} (h1 : oneB ρ = true) {j i : Nat} (hl : lk ρ j = some i) : inv ρ i = some j := by
 induction ρ with
 | nil => simp [lk] at hl
 | cons a ρ ih =>
   obtain ⟨j', i'⟩ := a
   simp only [oneB, Bool.and_eq_true] at h1
   rw [qQ3] at hl
   simp only [inv]
   by_cases hj : j' = j
   ·rw [if_pos hj] at hl
    cases hl
    simp [hj]
   ·rw [if_neg hj] at hl
    have := ih h1.2.2 hl
    cases hb : Nat.beq i' i with
    | false => simpa using this
    | true =>
      have := Nat.eq_of_beq_eq_true hb
      subst this
      rw [‹inv ρ i' = some j›] at h1
      simp at h1
def viewO (ρ : List (Nat × Nat)) (L : Nat -> Bool) (o : Nat -> Tag) : Nat -> Tag := fun b => match o b with
 | .hd i => match inv ρ i with
   | some j => .hd j
   | none => bif L i then .sh else .no
 | t => t
def viewH (ρ : List (Nat × Nat)) (h : Nat -> Value) : Nat -> Value := fun j => h (rn ρ j)
section
variable {P : Program} {lay : Lay} {o o' : Nat -> Tag} {h h' : Nat -> Value} {A A' : St} {tm : Array Value} {w w' : World} {Q : Exit -> St -> Prop} {k : List K} {e : Exit}
theorem viewO_sh {ρ : List (Nat × Nat)} {L : Nat -> Bool} {b : Nat} (hb : o b = .sh) : viewO ρ L o b = .sh := by simp [viewO, hb]
theorem viewO_no {ρ : List (Nat × Nat)} {L : Nat -> Bool} {b : Nat} (hb : o b = .no) : viewO ρ L o b = .no := by simp [viewO, hb]
theorem keep_view (ρ : List (Nat × Nat)) (L : Nat -> Bool) : Keep o w (viewO ρ L o) w := fun b hb => ⟨viewO_sh hb, rfl⟩
theorem EvOk.view {ρ : List (Nat × Nat)} {x : EV} {v : Value} (hk : Keep o w o' w) (hx : EvOk o h w (x.ren ρ) v) : EvOk o' (viewH ρ h) w x v := by
 induction x with
 | r i => exact hx
 | pt i k e q => exact hx
 | fn g hs =>
   have : hs.map (viewH ρ h) = (rnL ρ hs).map h := by rw [rnL_eq, List.map_map]; rfl
   show v = .func (.func g) #[] (hs.map (viewH ρ h)).toArray
   rw [this]; exact hx
 | gd b x ih => exact ⟨fun e => ih (hx.1 e), hx.2⟩
 | dead => trivial
 | c x => exact RepV.keep hk hx
 | ag cs => exact EvOk.keep (x := .ag cs) hk hx
 | pe n k f e q => exact EvOk.keep (x := .pe n k f e q) hk hx
 | ah cs q i => obtain ⟨vs, rfl, h1, h0, h2⟩ := hx; exact ⟨vs, rfl, h1, h0, fun q' x hne hq => let ⟨u, hu, hr⟩ := h2 q' x hne hq; ⟨u, hu, hr.keep hk⟩⟩
theorem SvOk.view {ρ : List (Nat × Nat)} {x : SV} {v : Value} (hk : Keep o w o' w) (hx : SvOk o h w (x.ren ρ) v) : SvOk o' (viewH ρ h) w x v := by
 cases x with
 | e x => exact EvOk.view hk hx
 | tup xs =>
   obtain ⟨vs, rfl, h1, h2⟩ := hx
   rw [renL_eq] at h1 h2
   refine ⟨vs, rfl, by simpa using h1, fun q x hq => ?_⟩
   obtain ⟨u, hu, hx⟩ := h2 q (x.ren ρ) (by rw [List.getElem?_map, hq]; rfl)
   exact ⟨u, hu, hx.view hk⟩
theorem ResOk.view {ρ : List (Nat × Nat)} {L : Nat -> Bool} (h1 : oneB ρ = true) {j i : Nat} (hl : lk ρ j = some i) {r : Res} (hr : ResOk o h w i (r.ren ρ)) : ResOk (viewO ρ L o) (viewH ρ h) w j r := by
 have hk : Keep o w (viewO ρ L o) w := keep_view ρ L
 have hh : viewH ρ h j = h i := by simp [viewH, rn, hl]
 have ht : ∀ b, o b = .hd i -> viewO ρ L o b = .hd j := fun b hb => by simp [viewO, hb, inv_of h1 hl]
 cases r with
 | gone => trivial
 | own E x =>
   cases x with
   | sl n k f =>
     obtain ⟨vs, hown, htag, hv⟩ := hr
     refine ⟨vs, by rw [hh]; exact hown, fun b hb => ht b (htag b (by rw [<-hh]; exact hb)), fun e q he hq => ?_⟩
     obtain ⟨u, hu, hx⟩ := hv e q he hq
     exact ⟨u, hu, hx.keep hk⟩
   | lit _ => exact hr.elim
   | clo _ _ _ _ => exact hr.elim
 | box T cs bk =>
   obtain ⟨b, vs, h0, h1', h2, h3, h4, h5⟩ := hr
   rw [renL_eq] at h4 h5
   refine ⟨b, vs, h0, hh.trans h1', h2, ht b h3, by simpa using h4, fun q x hq => ?_⟩
   obtain ⟨u, hu, hone, hx⟩ := h5 q (x.ren ρ) (by rw [List.getElem?_map, hq]; rfl)
   exact ⟨u, hu, hone, hx.view hk⟩
 | mset xs =>
   obtain ⟨b, es, clock, h1', h2, h3, h4⟩ := hr
   exact ⟨b, es, clock, hh.trans h1', h2, ht b h3, h4⟩
 | glo b T vs => exact ⟨(hk b hr.1).1, (hk b hr.1).2.trans hr.2⟩
def subS (ρ : List (Nat × Nat)) (A : St) : List (Nat × SV) -> Prop
 | [] => True
 | (s, x) :: l => lk A.sl s = some (x.ren ρ) /\ subS ρ A l
def subR (ρ : List (Nat × Nat)) (A : St) : List (Nat × Res) -> Prop
 | [] => True
 | (j, r) :: l => (match lk ρ j with | some i => lk A.rs i = some (r.ren ρ) | none => False) /\ subR ρ A l
theorem subS_ok {ρ : List (Nat × Nat)} : ∀ {l : List (Nat × SV)}, subS ρ A l -> ∀ s x, lk l s = some x -> lk A.sl s = some (x.ren ρ)
 | [], _, _, _, hl => by simp [lk] at hl
 | (s', y) :: l, hs, s, x, hl => by
   rw [qQ3] at hl
   split at hl
   ·rename_i e; subst e; cases hl; exact hs.1
   ·exact subS_ok hs.2 s x hl
theorem subR_ok {ρ : List (Nat × Nat)} : ∀ {l : List (Nat × Res)}, subR ρ A l -> ∀ j r, lk l j = some r -> ∃ i, lk ρ j = some i /\ lk A.rs i = some (r.ren ρ)
 | [], _, _, _, hl => by simp [lk] at hl
 | (j', y) :: l, hs, j, r, hl => by
   rw [qQ3] at hl
   split at hl
   ·rename_i e
    subst e; cases hl
    have := hs.1
    split at this
    ·exact ⟨_, ‹_›, this⟩
    ·exact this.elim
   ·exact subR_ok hs.2 j r hl
theorem tags_view (hs : Sat o h A tm w) (ρ : List (Nat × Nat)) (L : Nat -> Bool) : ∀ b, (∀ i, viewO ρ L o b = .hd i -> b < w.heap.size) /\ (viewO ρ L o b = .sh -> b < w.heap.size) := by
 intro b
 cases hob : o b with
 | no => simp [viewO, hob]
 | sh => have := (hs.tags b).2 hob; simp [viewO, hob, this]
 | hd i => have := (hs.tags b).1 i hob; exact ⟨fun _ _ => this, fun _ => this⟩
theorem Sat.sub (hs : Sat o h A tm w) (ρ : List (Nat × Nat)) (h1 : oneB ρ = true) (hn : A'.n = A.n) (hS : subS ρ A A'.sl) (hR : subR ρ A A'.rs) :
  Sat (viewO ρ (fun _ => false) o) (viewH ρ h) A' tm w /\ Ext o w (viewO ρ (fun _ => false) o) w := by
 refine ⟨⟨hs.size.trans hn.symm, tags_view hs ρ _, fun s x hl => ?_, fun j r hl => ?_⟩, ⟨Nat.le_refl _, rfl, rfl, rfl, Nat.le_refl _, fun b hb _ => ⟨viewO_sh hb, rfl⟩, fun b hb _ => ⟨viewO_no hb, rfl⟩⟩⟩
 ·exact (hs.slot s _ (subS_ok hS s x hl)).view (keep_view ρ _)
 ·obtain ⟨i, hi, hr⟩ := subR_ok hR j r hl
  exact (hs.res i _ hr).view h1 hi
theorem KW.sub (ρ : List (Nat × Nat)) (h1 : oneB ρ = true) (hn : A'.n = A.n) (hS : subS ρ A A'.sl) (hR : subR ρ A A'.rs) (hk : KW P k e A' Q) : KW P k e A Q :=
 KW.weaken (fun o h tm w hs => ⟨_, _, hs.sub ρ h1 hn hS hR⟩) hk
theorem KW.test {c : Operand} {x y : Code} {b : Bool} {p : Prop} (hb : litOf A c = some (.bool b, p)) (hp : p) (ht : b = true -> KW P (.code x :: k) .normal A Q) (hf : b = false -> KW P (.code y :: k) .normal A Q) :
  KW P (.code (.cond c x y) :: k) .normal A Q :=
 KW.cond (fun o h tm w hs => (qZ6 hs hb hp).1) ht hf
theorem Sat.conv (hs : Sat o h A tm w) {s : Nat} {x y : CV} (hl : lk A.sl s = some (.e (.c x))) (he : CVEq x y) : Sat o h ⟨A.n, (s, .e (.c y)) :: A.sl, A.rs⟩ tm w := by
 refine ⟨hs.size, hs.tags, fun s' x' hl' => ?_, hs.res⟩
 rw [qQ3] at hl'
 split at hl'
 ·rename_i e; subst e; cases hl'; exact RepV.conv he (hs.slot s _ hl)
 ·exact hs.slot s' x' hl'
theorem KW.conv (s : Nat) {x : CV} (y : CV) (hl : lk A.sl s = some (.e (.c x))) (he : CVEq x y) (hk : KW P k e ⟨A.n, (s, .e (.c y)) :: A.sl, A.rs⟩ Q) : KW P k e A Q :=
 KW.weaken (fun o h tm w hs => ⟨o, h, hs.conv hl he, Ext.refl o w⟩) hk
theorem Sat.convR (hs : Sat o h A tm w) {i E n k : Nat} {f g : Nat -> Nat -> CV} (hl : lk A.rs i = some (.own E (.sl n k f))) (he : ∀ e q, e < n -> q < k -> CVEq (f e q) (g e q)) : Sat o h ⟨A.n, A.sl, (i, .own E (.sl n k g)) :: A.rs⟩ tm w := by
 refine ⟨hs.size, hs.tags, hs.slot, fun j r hl' => ?_⟩
 rw [qQ3] at hl'
 split at hl'
 ·rename_i e
  subst e; cases hl'
  obtain ⟨vs, hown, htag, hv⟩ := hs.res i _ hl
  exact ⟨vs, hown, htag, fun e q he' hq => let ⟨u, hu, hx⟩ := hv e q he' hq; ⟨u, hu, hx.conv (he e q he' hq)⟩⟩
 ·exact hs.res j r hl'
theorem KW.convR (i : Nat) {E n k' : Nat} {f : Nat -> Nat -> CV} (y : CV) {g : Nat -> Nat -> CV} (hl : lk A.rs i = some (.own E (.sl n k' f))) (hy : y = .sl n k' g) (he : ∀ e q, e < n -> q < k' -> CVEq (f e q) (g e q))
  (hk : KW P k e ⟨A.n, A.sl, (i, .own E y) :: A.rs⟩ Q) : KW P k e A Q := by
 subst hy
 exact KW.weaken (fun o h tm w hs => ⟨o, h, hs.convR hl he, Ext.refl o w⟩) hk
theorem Sat.nilO (hs : Sat o h A tm w) {s d E k : Nat} {f : Nat -> Nat -> CV} (hl : lk A.sl s = some (.e (.c (.lit (.slice none 0 0))))) (hf : qW9 A d = true) :
  Sat o (updH h d (.slice none 0 0)) ⟨A.n, (s, .e (.r d)) :: A.sl, (d, .own E (.sl 0 k f)) :: A.rs⟩ tm w := by
 have hc : Chg o h w o (updH h d (.slice none 0 0)) w (fun _ => False) A := by
  refine ⟨fun b hb => ⟨hb, rfl⟩, fun j b _ hb => ⟨hb, rfl⟩, fun j hj => ?_⟩
  have : j = d := Classical.byContradiction fun hne => hj (by simp [updH, hne])
  subst this; exact hf
 refine ⟨hs.size, hs.tags, fun s' x' hl' => ?_, fun j r hl' => ?_⟩
 ·rw [qQ3] at hl'
  split at hl'
  ·rename_i e
   subst e; cases hl'
   have : tm.getD s undef = .slice none 0 0 := (hs.slot s _ hl).1
   rw [this]; simp [SvOk, EvOk, updH]
  ·exact hc.slot hs s' x' hl'
 ·rw [qQ3] at hl'
  split at hl'
  ·rename_i e
   subst e; cases hl'
   exact ⟨[], by simpa [updH] using World.ownsRow_nil w 0 E k, fun b hb => by simp [updH, Value.ownBlock] at hb, fun e q he => by omega⟩
  ·exact hc.resOk hs j r (fun e => e) hl'
theorem KW.nilO (s d E : Nat) (y : CV) {k' : Nat} {f : Nat -> Nat -> CV} (hy : y = .sl 0 k' f) (hl : lk A.sl s = some (.e (.c (.lit (.slice none 0 0))))) (hf : qW9 A d = true)
  (hk : KW P k e ⟨A.n, (s, .e (.r d)) :: A.sl, (d, .own E y) :: A.rs⟩ Q) : KW P k e A Q := by
 subst hy
 exact KW.weaken (fun o h tm w hs => ⟨o, _, hs.nilO hl hf, Ext.refl o w⟩) hk
def frzO (o : Nat -> Tag) (i : Nat) : Nat -> Tag := fun b => match o b with
 | .hd j => if j = i then .sh else .hd j
 | t => t
def pushC (x : CV) : List Nat -> List (Nat × SV) -> List (Nat × SV)
 | [], l => l
 | s :: ss, l => (s, .e (.c x)) :: pushC x ss l
def allR (A : St) (i : Nat) : List Nat -> Bool
 | [] => true
 | s :: ss => (match lk A.sl s with | some (.e (.r j)) => Nat.beq j i | _ => false) && allR A i ss
theorem Sat.frz (hs : Sat o h A tm w) {i E n k : Nat} {f : Nat -> Nat -> CV} (hl : lk A.rs i = some (.own E (.sl n k f))) {ss : List Nat} (ha : allR A i ss = true) :
  Sat (frzO o i) h ⟨A.n, pushC (.sl n k f) ss A.sl, (i, .gone) :: A.rs⟩ tm w /\ Ext o w (frzO o i) w := by
 have hk : Keep o w (frzO o i) w := fun b hb => ⟨by simp [frzO, hb], rfl⟩
 obtain ⟨vs, hown, htag, hv⟩ := hs.res i _ hl
 have hrep : RepV (frzO o i) w (.sl n k f) (h i) := by
  rcases hown.2 with ⟨h1, rfl⟩ | ⟨b, cap, cur, h1, h2, h3, h4, h5, h6, h7⟩
  ·exact ⟨none, 0, h1, Nat.le_refl _, Nat.zero_le _, .inl rfl⟩
  ·refine ⟨_, cap, h1, h4, h5, .inr ⟨b, 0, rfl, by simp [frzO, htag b (by rw [h1]; rfl)], fun e q he hq => ?_⟩⟩
   obtain ⟨u, hu, hx⟩ := hv e q he hq
   have := hown.cells (g := b) (by rw [h1]; rfl) _ _ hu
   rw [qB4] at this
   exact ⟨u, this, hx.keep hk⟩
 refine ⟨⟨hs.size, fun b => ?_, ?_, fun j r hl' => ?_⟩, ⟨Nat.le_refl _, rfl, rfl, rfl, Nat.le_refl _, fun b hb _ => ⟨by simp [frzO, hb], rfl⟩, fun b hb _ => ⟨by simp [frzO, hb], rfl⟩⟩⟩
 ·cases hob : o b with
  | no => simp [frzO, hob]
  | sh => have := (hs.tags b).2 hob; simp [frzO, hob, this]
  | hd j => have := (hs.tags b).1 j hob; simp only [frzO, hob]; split <;> exact ⟨fun _ _ => this, fun _ => this⟩
 ·have : ∀ ss, allR A i ss = true -> ∀ s x, lk (pushC (.sl n k f) ss A.sl) s = some x -> SvOk (frzO o i) h w x (tm.getD s undef) := by
   intro ss
   induction ss with
   | nil => intro _ s x hl'; exact (hs.slot s x hl').keep hk
   | cons s0 ss ih =>
     intro ha s x hl'
     simp only [allR, Bool.and_eq_true] at ha
     simp only [pushC] at hl'
     rw [qQ3] at hl'
     split at hl'
     ·rename_i e
      subst e; cases hl'
      have h1 := ha.1
      split at h1
      ·rename_i j hj
       have := Nat.eq_of_beq_eq_true h1
       subst this
       have hv : tm.getD s0 undef = h j := hs.slot s0 _ hj
       show RepV _ _ _ _
       rw [hv]; exact hrep
      ·cases h1
     ·exact ih ha.2 s x hl'
  exact this ss ha
 ·rw [qQ3] at hl'
  split at hl'
  ·cases hl'; trivial
  ·rename_i hne
   have ht : ∀ b, o b = .hd j -> frzO o i b = .hd j /\ w.heap[b]? = w.heap[b]? := fun b hb => ⟨by simp [frzO, hb, Ne.symm hne], rfl⟩
   exact ResOk.chg hk ht rfl (fun j hj => absurd rfl hj) (hs.res j r hl')
theorem KW.frz (i : Nat) (ss : List Nat) {E n k' : Nat} {f : Nat -> Nat -> CV} {x : CV} (hl : lk A.rs i = some (.own E x)) (hx : x = .sl n k' f) (ha : allR A i ss = true)
  (hk : KW P k e ⟨A.n, pushC x ss A.sl, (i, .gone) :: A.rs⟩ Q) : KW P k e A Q := by
 subst hx
 exact KW.weaken (fun o h tm w hs => ⟨_, _, hs.frz hl ha⟩) hk
theorem KW.name (i : Nat) {T : Nat} {cs : List EV} {bk : Option Nat} (hl : lk A.rs i = some (.box T cs bk)) (hk : ∀ b, KW P k e ⟨A.n, A.sl, (i, .box T cs (some b)) :: A.rs⟩ Q) : KW P k e A Q := by
 intro o h tm w hs
 obtain ⟨b, vs, h0, h1⟩ := hs.res i _ hl
 refine hk b o h tm w ⟨hs.size, hs.tags, hs.slot, fun j r hl' => ?_⟩
 rw [qQ3] at hl'
 split at hl'
 ·rename_i e; subst e; cases hl'; exact ⟨b, vs, fun b' hb' => by cases hb'; rfl, h1⟩
 ·exact hs.res j r hl'
def idx : Nat -> List EV -> List (Nat × SV)
 | _, [] => []
 | s, y :: ys => (s, .e y) :: idx (s + 1) ys
theorem idx_lt : ∀ (ys : List EV) (s0 s : Nat) (x : SV), lk (idx s0 ys) s = some x -> s0 ≤ s /\ s < s0 + ys.length /\ ∃ y, ys[s - s0]? = some y /\ x = .e y
 | [], _, _, _, hl => by simp [idx, lk] at hl
 | y :: ys, s0, s, x, hl => by
   simp only [idx] at hl
   rw [qQ3] at hl
   split at hl
   ·rename_i e; subst e; cases hl; exact ⟨Nat.le_refl _, by simp, y, by simp, rfl⟩
   ·obtain ⟨h1, h2, y', h3, h4⟩ := idx_lt ys (s0 + 1) s x hl
    refine ⟨by omega, by simp; omega, y', ?_, h4⟩
    rw [show s - s0 = (s - (s0 + 1)) + 1 by omega, List.getElem?_cons_succ]; exact h3
theorem idx_get : ∀ (ys : List EV) (s0 j : Nat) (y : EV), ys[j]? = some y -> lk (idx s0 ys) (s0 + j) = some (.e y)
 | [], _, _, _, h => by simp at h
 | y :: ys, s0, 0, y', h => by simp at h; subst h; simp [idx, qQ3]
 | y :: ys, s0, j + 1, y', h => by
   simp only [idx]
   rw [qQ3, if_neg (by omega), show s0 + (j + 1) = (s0 + 1) + j by omega]
   exact idx_get ys (s0 + 1) j y' (by simpa using h)
def DoesF (P : Program) (f : FuncId) (ys : List EV) (rs : List (Nat × Res)) (y : SV) (rs' : List (Nat × Res)) : Prop :=
 ∀ o h args w, Sat o h ⟨ys.length, idx 0 ys, rs⟩ args w -> Calls P f args w fun e w' => ∃ v o' h', e = .returned v /\ Sat o' h' ⟨1, [(0, y)], rs'⟩ #[v] w' /\ Ext o w o' w'
def resTmps : List ResultVar -> Option (List Tmp)
 | [] => some []
 | .tmp t :: l => match resTmps l with
   | some ts => some (t :: ts)
   | none => none
 | _ => none
def retB (A : St) (rv : List ResultVar) : Option SV :=
 match rv with
 | [] => some (.tup [])
 | [.tmp t] => lk A.sl t
 | rv => match resTmps rv with
   | some ts => match tupOf A ts with
     | some xs => some (.tup xs)
     | none => none
   | none => none
where
 tupOf (A : St) : List Tmp -> Option (List EV)
  | [] => some []
  | t :: ts => match lk A.sl t, tupOf A ts with
    | some (.e x), some xs => some (x :: xs)
    | _, _ => none
def rvS (tm : Array Value) (x : ResultVar) : Sem Value := match x with
 | .tmp t => pure (tm.getD t undef)
 | .cell a t => do loadVar t (<-asAddr (tm.getD a undef))
theorem results_eq (fn : Func) (tm : Array Value) : results fn tm = (do
  let vs <-fn.results.mapM (rvS tm)
  pure (if h : vs.size = 1 then vs[0] else .tuple vs)) := rfl
theorem results_ok (hs : Sat o h A tm w) {fn : Func} {y : SV} (hr : retB A fn.results.toList = some y) : ∃ v, (results fn tm).run P w = .ok v w /\ SvOk o h w y v := by
 have hmap : ∀ (l : List ResultVar) (ts : List Tmp), resTmps l = some ts -> l = ts.map .tmp := by
  intro l
  induction l with
  | nil => intro ts h; simp [resTmps] at h; subst h; rfl
  | cons a l ih =>
    intro ts h
    cases a with
    | tmp t =>
      simp only [resTmps] at h
      split at h
      ·rename_i ts' h'
       simp only [Option.some.injEq] at h
       subst h
       rw [ih _ h']; rfl
      ·cases h
    | cell _ _ => simp [resTmps] at h
 have hrun : ∀ (ts : List Tmp), fn.results = (ts.map ResultVar.tmp).toArray -> (results fn tm).run P w = .ok (if h : (ts.map fun t => tm.getD t undef).toArray.size = 1 then (ts.map fun t => tm.getD t undef).toArray[0] else .tuple (ts.map fun t => tm.getD t undef).toArray) w := by
  intro ts hts
  have hM : ((ts.map ResultVar.tmp).mapM (rvS tm)).run P w = .ok (ts.map fun t => tm.getD t undef) w := by
   clear hts
   induction ts with
   | nil => rfl
   | cons t ts ih =>
     simp only [List.map_cons, List.mapM_cons, Sem.run_bind, ih, Result.andThen_ok, Sem.run_pure, rvS]
  have hM' : (fn.results.mapM (rvS tm)).run P w = .ok (ts.map fun t => tm.getD t undef).toArray w := by
   rw [hts, Array.mapM_eq_mapM_toList]
   simp only [Sem.run_map]
   rw [hM]; rfl
  rw [results_eq]
  simp only [Sem.run_bind, hM', Result.andThen_ok, Sem.run_pure]
 unfold retB at hr
 split at hr
 ·rename_i hl
  simp only [Option.some.injEq] at hr
  subst hr
  have : fn.results = (([] : List Tmp).map ResultVar.tmp).toArray := by cases hfr : fn.results; simp_all
  exact ⟨_, hrun [] this, #[], rfl, rfl, by simp⟩
 ·rename_i t hl
  have : fn.results = (([t] : List Tmp).map ResultVar.tmp).toArray := by cases hfr : fn.results; simp_all
  exact ⟨_, hrun [t] this, hs.slot t _ hr⟩
 ·rename_i rv hne1 hne2
  split at hr
  ·rename_i ts hts
   split at hr
   ·rename_i xs hxs
    simp only [Option.some.injEq] at hr
    subst hr
    have hts' := hmap _ _ hts
    have : fn.results = (ts.map ResultVar.tmp).toArray := by rw [<-hts']
    have hlen : ts.length ≠ 1 := by
     intro hlen
     match ts, hlen with
     | [t], _ => exact hne2 t (by rw [hts']; rfl)
    refine ⟨_, hrun ts this, ?_⟩
    rw [dif_neg (by simpa using hlen)]
    have hget : ∀ (ts : List Tmp) (xs : List EV), retB.tupOf A ts = some xs -> xs.length = ts.length /\ ∀ (q : Nat) x, xs[q]? = some x -> ∃ t, ts[q]? = some t /\ lk A.sl t = some (.e x) := by
     intro ts
     induction ts with
     | nil => intro xs h; simp [retB.tupOf] at h; subst h; simp
     | cons t ts ih =>
       intro xs h
       simp only [retB.tupOf] at h
       split at h
       ·rename_i x xs' h1 h2
        simp only [Option.some.injEq] at h
        subst h
        obtain ⟨g1, g2⟩ := ih _ h2
        refine ⟨by simp [g1], fun q y hq => ?_⟩
        cases q with
        | zero => simp at hq; subst hq; exact ⟨t, rfl, h1⟩
        | succ q => simp at hq; simpa using g2 q y hq
       ·cases h
    obtain ⟨g1, g2⟩ := hget ts xs hxs
    refine ⟨_, rfl, by simp [g1], fun q x hq => ?_⟩
    obtain ⟨t, ht, hx⟩ := g2 q x hq
    exact ⟨tm.getD t undef, by simp [ht], hs.slot t _ hx⟩
   ·cases hr
  ·cases hr
theorem DoesF.of {f : FuncId} {fn : Func} {c : Code} {ys : List EV} {rs rs' : List (Nat × Res)} {y : SV} (n : Nat) (hf : P.funcs[f]? = some fn) (hb : fn.body = some c) (hnt : fn.ntmps = n) (hn : Nat.ble ys.length n = true)
  (hk : KW P [.code c] .normal ⟨n, idx 0 ys, rs⟩ fun e A' => (e = .ret ∨ e = .normal) /\ ∃ y0 ρ, retB A' fn.results.toList = some y0 /\ oneB ρ = true /\ y0 = y.ren ρ /\ subR ρ A' rs') :
  DoesF P f ys rs y rs' := by
 subst hnt
 have hn : ys.length ≤ fn.ntmps := by simpa using hn
 intro o h args w hs
 refine calls_of_wp hf hb ?_
 have hsz : args.size = ys.length := hs.size
 have hs' : Sat o h ⟨fn.ntmps, idx 0 ys, rs⟩ (args ++ Array.replicate (fn.ntmps - args.size) undef) w := by
  refine ⟨by simp [hsz]; omega, hs.tags, fun s x hl => ?_, hs.res⟩
  have := hs.slot s x hl
  obtain ⟨_, hlt, _⟩ := idx_lt ys 0 s x hl
  have e1 : (args ++ Array.replicate (fn.ntmps - args.size) undef).getD s undef = args.getD s undef := by
   rw [Array.getD_eq_getD_getElem?, Array.getD_eq_getD_getElem?, Array.getElem?_append_left (by omega)]
  rw [e1]; exact this
 refine wp_mono (codeQ_wp (hk o h _ w hs')) ?_
 rintro e ⟨tm', ds⟩ w' hl
 obtain ⟨hd, o', h', A', ⟨he, y0, ρ, hr, h1, rfl, hR⟩, hs2, hx⟩ : lift _ o w e ⟨tm', ds⟩ w' := by
  cases e <;> exact hl
 simp only at hd
 subst hd
 obtain ⟨v, hv, hy⟩ := results_ok (P := P) hs2 hr
 have hfin : ∃ v o' h', Ending.returned v = .returned v /\ Sat o' h' ⟨1, [(0, y)], rs'⟩ #[v] w' /\ Ext o w o' w' /\ (results fn tm').run P w' = .ok v w' := by
  refine ⟨v, viewO ρ (fun _ => false) o', viewH ρ h', rfl, ⟨rfl, tags_view hs2 ρ _, fun s x hl => ?_, fun j r hl => ?_⟩, hx.trans ⟨Nat.le_refl _, rfl, rfl, rfl, Nat.le_refl _, fun b hb _ => ⟨viewO_sh hb, rfl⟩, fun b hb _ => ⟨viewO_no hb, rfl⟩⟩, hv⟩
  ·rw [qQ3] at hl
   split at hl
   ·rename_i e; subst e; cases hl; exact hy.view (keep_view ρ _)
   ·simp [lk] at hl
  ·obtain ⟨i, hi, hr⟩ := subR_ok hR j r hl
   exact (hs2.res i _ hr).view h1 hi
 obtain ⟨v, o2, h2, _, g1, g2, g3⟩ := hfin
 rcases he with rfl | rfl
 ·exact ⟨rfl, v, g3, v, o2, h2, rfl, g1, g2⟩
 ·exact ⟨rfl, v, g3, v, o2, h2, rfl, g1, g2⟩
end
end Go.Sy
namespace Go.Sy
variable [Drw]
def FlatC : CV -> Prop
 | .lit _ => True
 | _ => False
def EvFlat : EV -> Prop
 | .c x => FlatC x
 | .ag cs => ∀ x ∈ cs, FlatC x
 | .pe _ _ _ _ _ => False
 | .ah _ _ _ => False
 | .gd _ x => EvFlat x
 | _ => True
def SvFlat : SV -> Prop
 | .e x => EvFlat x
 | .tup xs => ∀ x ∈ xs, EvFlat x
def ResFlat : Res -> Prop
 | .own _ (.sl _ _ f) => ∀ e q, FlatC (f e q)
 | .own _ _ => False
 | .box _ cs _ => ∀ x ∈ cs, EvFlat x
 | .glo _ _ _ => False
 | _ => True
def keyB (ρ : List (Nat × Nat)) (j : Nat) : Bool := match lk ρ j with
 | some _ => true
 | none => false
def keysB (ρ : List (Nat × Nat)) : List Nat -> Bool
 | [] => true
 | j :: l => keyB ρ j && keysB ρ l
def EV.inB (ρ : List (Nat × Nat)) : EV -> Bool
 | .r i => keyB ρ i
 | .pt i _ _ _ => keyB ρ i
 | .fn _ hs => keysB ρ hs
 | .gd _ x => x.inB ρ
 | .ah _ _ i => keyB ρ i
 | _ => true
def inBs (ρ : List (Nat × Nat)) : List EV -> Bool
 | [] => true
 | x :: l => x.inB ρ && inBs ρ l
def SV.inB (ρ : List (Nat × Nat)) : SV -> Bool
 | .e x => x.inB ρ
 | .tup xs => inBs ρ xs
def Res.inB (ρ : List (Nat × Nat)) : Res -> Bool
 | .box _ cs _ => inBs ρ cs
 | _ => true
theorem inBs_ok {ρ : List (Nat × Nat)} : ∀ {l : List EV}, inBs ρ l = true -> ∀ x ∈ l, x.inB ρ = true
 | [], _, x, hx => by simp at hx
 | y :: l, hb, x, hx => by
   simp only [inBs, Bool.and_eq_true] at hb
   rcases List.mem_cons.1 hx with rfl | hx
   ·exact hb.1
   ·exact inBs_ok hb.2 x hx
theorem keysB_ok {ρ : List (Nat × Nat)} : ∀ {l : List Nat}, keysB ρ l = true -> ∀ j ∈ l, ∃ i, lk ρ j = some i
 | [], _, x, hx => by simp at hx
 | y :: l, hb, x, hx => by
   simp only [keysB, Bool.and_eq_true] at hb
   rcases List.mem_cons.1 hx with rfl | hx
   ·have := hb.1
    unfold keyB at this
    split at this
    ·exact ⟨_, ‹_›⟩
    ·cases this
   ·exact keysB_ok hb.2 x hx
theorem keyB_ok {ρ : List (Nat × Nat)} {j : Nat} (hb : keyB ρ j = true) : ∃ i, lk ρ j = some i := by
 unfold keyB at hb
 split at hb
 ·exact ⟨_, ‹_›⟩
 ·cases hb
section
variable {P : Program} {lay : Lay} {o o' : Nat -> Tag} {h h' : Nat -> Value} {A A' : St} {tm : Array Value} {w w' : World} {Q : Exit -> St -> Prop} {k : List K} {e : Exit}
theorem EvOk.back {ρ : List (Nat × Nat)} {x : EV} {v : Value} (hin : x.inB ρ = true) (hh : ∀ j i, lk ρ j = some i -> h' i = h j) (hk : Keep o w o' w ∨ EvFlat x) (hx : EvOk o h w x v) : EvOk o' h' w (x.ren ρ) v := by
 have hrn : ∀ j, keyB ρ j = true -> h' (rn ρ j) = h j := fun j hj => by
  obtain ⟨i, hi⟩ := keyB_ok hj
  have : rn ρ j = i := by simp [rn, hi]
  rw [this]; exact hh j i hi
 have flat : ∀ {y : CV} {u : Value}, FlatC y -> RepV o w y u -> RepV o' w y u := fun {y u} hf hr => by
  cases y with
  | lit _ => exact hr
  | _ => exact hf.elim
 induction x with
 | r i => show v = h' (rn ρ i); rw [hrn i hin]; exact hx
 | pt i k e q => show ∃ b, headOf (h' (rn ρ i)) = some b /\ _; rw [hrn i hin]; exact hx
 | fn g hs =>
   show v = .func (.func g) #[] ((rnL ρ hs).map h').toArray
   have : (rnL ρ hs).map h' = hs.map h := by
    rw [rnL_eq, List.map_map]
    refine List.map_congr_left fun j hj => ?_
    obtain ⟨i, hi⟩ := keysB_ok hin j hj
    show h' (rn ρ j) = h j
    have : rn ρ j = i := by simp [rn, hi]
    rw [this]; exact hh j i hi
   rw [this]; exact hx
 | gd b x ih => exact ⟨fun e => ih hin (hk.imp id fun hf => hf) (hx.1 e), hx.2⟩
 | dead => trivial
 | c x => exact hk.elim (fun hk => RepV.keep hk hx) (fun hf => flat hf hx)
 | ag cs =>
   rcases hk with hk | hf
   ·exact EvOk.keep (x := .ag cs) hk hx
   ·obtain ⟨vs, rfl, h1, h2⟩ := hx
    exact ⟨vs, rfl, h1, fun q y hq => let ⟨u, hu, hr⟩ := h2 q y hq; ⟨u, hu, flat (hf y (List.mem_of_getElem? hq)) hr⟩⟩
 | pe n k f e q => exact hk.elim (fun hk => EvOk.keep (x := .pe n k f e q) hk hx) (fun hf => hf.elim)
 | ah cs q i =>
   obtain ⟨vs, rfl, h1, h0, h2⟩ := hx
   refine ⟨vs, rfl, h1, by rw [hrn i hin]; exact h0, fun q' x hne hq => ?_⟩
   obtain ⟨u, hu, hr⟩ := h2 q' x hne hq
   exact ⟨u, hu, hk.elim (fun hk => hr.keep hk) fun hf => hf.elim⟩
theorem SvOk.back {ρ : List (Nat × Nat)} {x : SV} {v : Value} (hin : x.inB ρ = true) (hh : ∀ j i, lk ρ j = some i -> h' i = h j) (hk : Keep o w o' w ∨ SvFlat x) (hx : SvOk o h w x v) : SvOk o' h' w (x.ren ρ) v := by
 cases x with
 | e x => exact EvOk.back hin hh (hk.imp id fun hf => hf) hx
 | tup xs =>
   obtain ⟨vs, rfl, h1, h2⟩ := hx
   refine ⟨vs, rfl, by rw [renL_eq]; simpa using h1, fun q x hq => ?_⟩
   rw [renL_eq, List.getElem?_map] at hq
   cases hxq : xs[q]? with
   | none => simp [hxq] at hq
   | some x0 =>
     simp [hxq] at hq
     subst hq
     obtain ⟨u, hu, hx⟩ := h2 q x0 hxq
     have hm := List.mem_of_getElem? hxq
     exact ⟨u, hu, hx.back (inBs_ok hin x0 hm) hh (hk.imp id fun hf => hf x0 hm)⟩
theorem ResOk.back {ρ : List (Nat × Nat)} {j i : Nat} (hl : lk ρ j = some i) {r : Res} (hin : r.inB ρ = true) (hh : ∀ j i, lk ρ j = some i -> h' i = h j) (ht : ∀ b, o b = .hd j -> o' b = .hd i) (hk : Keep o w o' w ∨ ResFlat r)
  (hr : ResOk o h w j r) : ResOk o' h' w i (r.ren ρ) := by
 have hi := hh j i hl
 cases r with
 | gone => trivial
 | own E x =>
   cases x with
   | sl n k f =>
     obtain ⟨vs, hown, htag, hv⟩ := hr
     refine ⟨vs, by rw [hi]; exact hown, fun b hb => ht b (htag b (by rw [<-hi]; exact hb)), fun e q he hq => ?_⟩
     obtain ⟨u, hu, hx⟩ := hv e q he hq
     refine ⟨u, hu, hk.elim (fun hk => hx.keep hk) fun hf => ?_⟩
     have := hf e q
     generalize f e q = y at this hx
     cases y with
     | lit _ => exact hx
     | _ => exact this.elim
   | lit _ => exact hr.elim
   | clo _ _ _ _ => exact hr.elim
 | box T cs bk =>
   obtain ⟨b, vs, h0, h1, h2, h3, h4, h5⟩ := hr
   refine ⟨b, vs, h0, hi.trans h1, h2, ht b h3, by rw [renL_eq]; simpa using h4, fun q x hq => ?_⟩
   rw [renL_eq, List.getElem?_map] at hq
   cases hxq : cs[q]? with
   | none => simp [hxq] at hq
   | some x0 =>
     simp [hxq] at hq
     subst hq
     obtain ⟨u, hu, hone, hx⟩ := h5 q x0 hxq
     have hm := List.mem_of_getElem? hxq
     exact ⟨u, hu, hone, hx.back (inBs_ok hin x0 hm) hh (hk.imp id fun hf => hf x0 hm)⟩
 | mset xs =>
   obtain ⟨b, es, clock, h1, h2, h3, h4⟩ := hr
   exact ⟨b, es, clock, hi.trans h1, h2, ht b h3, h4⟩
 | glo b T vs =>
   rcases hk with hk | hf
   ·exact ⟨(hk b hr.1).1, (hk b hr.1).2.trans hr.2⟩
   ·exact hf.elim
inductive Mt (A : St) (ρ : List (Nat × Nat)) (L : List Nat) : EV -> EV -> Prop where
 | same {y : EV} : Mt A ρ L (y.ren ρ) y
 | conv {X Y : CV} (he : CVEq X Y) : Mt A ρ L (.c X) (.c Y)
 | agc {xs ys : List CV} (hl : xs.length = ys.length) (he : ∀ (q : Nat) x y, xs[q]? = some x -> ys[q]? = some y -> CVEq x y) : Mt A ρ L (.ag xs) (.ag ys)
 | lend {i E n k : Nat} {f : Nat -> Nat -> CV} {X Y : CV} (hr : lk A.rs i = some (.own E X)) (hX : X = .sl n k f) (he : CVEq X Y) (hL : memN i L = true) (hi : inv ρ i = none) : Mt A ρ L (.r i) (.c Y)
 | lfn {g m : Nat} {hs : List Nat} {ks : Nat -> Nat} {caps : Nat -> Nat -> CV} (hm : hs.length = m)
   (hc : ∀ j, j < m -> ∃ i T cs bk, hs[j]? = some i /\ memN i L = true /\ inv ρ i = none /\ lk A.rs i = some (.box T cs bk) /\ ∀ q, q < ks j -> cs[q]? = some (.c (caps j q))) : Mt A ρ L (.fn g hs) (.c (.clo g m ks caps))
theorem memN_mem {d : Nat} : ∀ {l : List Nat}, memN d l = true -> d ∈ l
 | [], h => by simp [memN] at h
 | x :: l, h => by
   simp only [memN, Bool.or_eq_true] at h
   rcases h with h | h
   ·exact List.mem_cons.2 (.inl (Nat.eq_of_beq_eq_true h).symm)
   ·exact List.mem_cons.2 (.inr (memN_mem h))
theorem Mt.ok {ρ : List (Nat × Nat)} {L : List Nat} {x y : EV} {v : Value} (hs : Sat o h A tm w) (hm : Mt A ρ L x y) (hx : EvOk o h w x v) :
  EvOk (viewO ρ (fun i => memN i L) o) (viewH ρ h) w y v := by
 have hk : Keep o w (viewO ρ (fun i => memN i L) o) w := keep_view ρ _
 have lent : ∀ {i b : Nat}, memN i L = true -> inv ρ i = none -> o b = .hd i -> viewO ρ (fun i => memN i L) o b = .sh := fun {i b} hL hi hb => by simp [viewO, hb, hi, hL]
 cases hm with
 | same => exact EvOk.view hk hx
 | conv he => exact RepV.conv he (RepV.keep hk hx)
 | agc hl he =>
   obtain ⟨vs, rfl, h1, h2⟩ := hx
   refine ⟨vs, rfl, h1.trans hl, fun q y hq => ?_⟩
   rename_i xs ys
   have hlt : q < xs.length := by rw [hl]; exact (List.getElem?_eq_some_iff.1 hq).1
   obtain ⟨u, hu, hr⟩ := h2 q _ (List.getElem?_eq_getElem hlt)
   exact ⟨u, hu, RepV.conv (he q _ y (List.getElem?_eq_getElem hlt) hq) (hr.keep hk)⟩
 | lend hr hX he hL hi =>
   subst hX
   rename_i i E n k f Y
   refine RepV.conv he ?_
   obtain ⟨vs, hown, htag, hv⟩ := hs.res _ _ hr
   have hxv : v = h i := hx
   rcases hown.2 with ⟨h1, rfl⟩ | ⟨b, cap, cur, h1, h2, h3, h4, h5, h6, h7⟩
   ·exact ⟨none, 0, hxv.trans h1, Nat.le_refl _, Nat.zero_le _, .inl rfl⟩
   ·refine ⟨_, cap, hxv.trans h1, h4, h5, .inr ⟨b, 0, rfl, lent hL hi (htag b (by rw [h1]; rfl)), fun e q he hq => ?_⟩⟩
    obtain ⟨u, hu, hx⟩ := hv e q he hq
    have := hown.cells (g := b) (by rw [h1]; rfl) _ _ hu
    rw [qB4] at this
    exact ⟨u, this, hx.keep hk⟩
 | lfn hm hc =>
   rename_i g m hs' ks caps
   have key : ∀ j, ∃ b, j < m -> (viewO ρ (fun i => memN i L) o b = .sh /\ (∃ i, hs'[j]? = some i /\ h i = .pointer (some ⟨b, 0, none⟩)) /\ ∀ q, q < ks j -> ∃ u, w.cell? ⟨b, q, none⟩ = some u /\ RepV (viewO ρ (fun i => memN i L) o) w (caps j q) u) := by
    intro j
    by_cases hj : j < m
    ·obtain ⟨i, T, cs, bk, h1, h2, h3, h4, h5⟩ := hc j hj
     obtain ⟨b, vs, _, g1, g2, g3, g4, g5⟩ := hs.res i _ h4
     refine ⟨b, fun _ => ⟨lent h2 h3 g3, ⟨i, h1, g1⟩, fun q hq => ?_⟩⟩
     obtain ⟨u, hu, _, hr⟩ := g5 q _ (h5 q hq)
     exact ⟨u, by simp [World.cell?, g2, hu], RepV.keep hk hr⟩
    ·exact ⟨0, fun hj' => absurd hj' hj⟩
   refine ⟨fun j => Classical.choose (key j), ?_, fun j hj => ?_⟩
   ·have hxv : v = .func (.func g) #[] (hs'.map h).toArray := hx
    rw [hxv]
    congr 2
    refine List.ext_getElem? fun j => ?_
    rw [List.getElem?_map, List.getElem?_map]
    by_cases hj : j < m
    ·obtain ⟨_, ⟨i, hi, hb⟩, _⟩ := Classical.choose_spec (key j) hj
     rw [hi, List.getElem?_range hj]
     simp [hb]
    ·rw [List.getElem?_eq_none (by omega), List.getElem?_eq_none (by simpa using Nat.le_of_not_lt hj)]
     rfl
   ·obtain ⟨h1, _, h3⟩ := Classical.choose_spec (key j) hj
    exact ⟨h1, h3⟩
def argsP (A : St) (ρ : List (Nat × Nat)) (L : List Nat) : List Operand -> List EV -> Prop
 | [], [] => True
 | x :: xs, y :: ys => (∃ z p, rd A x = some (z, p) /\ p /\ Mt A ρ L z y) /\ argsP A ρ L xs ys
 | _, _ => False
theorem argsP_ok {ρ : List (Nat × Nat)} {L : List Nat} (hs : Sat o h A tm w) : ∀ {xs : List Operand} {ys : List EV}, argsP A ρ L xs ys -> xs.length = ys.length /\ ∀ (j : Nat) y, ys[j]? = some y -> ∃ x, xs[j]? = some x /\ EvOk (viewO ρ (fun i => memN i L) o) (viewH ρ h) w y (evl tm x)
 | [], [], _ => ⟨rfl, by simp⟩
 | x :: xs, y :: ys, ha => by
   obtain ⟨⟨z, p, h1, h2, h3⟩, h4⟩ := ha
   obtain ⟨g1, g2⟩ := argsP_ok hs h4
   refine ⟨by simp [g1], fun j y' hj => ?_⟩
   cases j with
   | zero => simp at hj; subst hj; exact ⟨x, rfl, Mt.ok hs h3 (qY6 hs h1 h2)⟩
   | succ j => simp at hj; simpa using g2 j y' hj
 | [], _ :: _, ha => ha.elim
 | _ :: _, [], ha => ha.elim
def capE (ks : Nat -> Nat) (caps : Nat -> Nat -> CV) : Nat -> Nat -> List EV
 | 0, _ => []
 | m + 1, j => .pe 1 (ks j) (fun _ q => caps j q) 0 0 :: capE ks caps m (j + 1)
theorem capE_length (ks : Nat -> Nat) (caps : Nat -> Nat -> CV) : ∀ m j, (capE ks caps m j).length = m
 | 0, j => rfl
 | m + 1, j => by simp [capE, capE_length ks caps m (j + 1)]
theorem capE_get (ks : Nat -> Nat) (caps : Nat -> Nat -> CV) : ∀ m j q, q < m -> (capE ks caps m j)[q]? = some (.pe 1 (ks (j + q)) (fun _ r => caps (j + q) r) 0 0)
 | 0, j, q, hq => by omega
 | m + 1, j, 0, hq => by simp [capE]
 | m + 1, j, q + 1, hq => by
   simp only [capE, List.getElem?_cons_succ]
   rw [capE_get ks caps m (j + 1) q (by omega), show j + 1 + q = j + (q + 1) by omega]
def gones : List (Nat × Nat) -> List (Nat × Res) -> List (Nat × Res)
 | [], l => l
 | (_, i) :: ρ, l => (i, .gone) :: gones ρ l
def renR (ρ : List (Nat × Nat)) : List (Nat × Res) -> List (Nat × Res) -> List (Nat × Res)
 | [], l => l
 | (j, r) :: rs, l => (rn ρ j, r.ren ρ) :: renR ρ rs l
def resIn (ρ : List (Nat × Nat)) : List (Nat × Res) -> Bool
 | [] => true
 | (j, r) :: rs => keyB ρ j && (r.inB ρ && resIn ρ rs)
theorem renR_lk {ρ : List (Nat × Nat)} : ∀ {rs l : List (Nat × Res)} {i : Nat} {r : Res}, lk (renR ρ rs l) i = some r -> (∃ j r0, (j, r0) ∈ rs /\ rn ρ j = i /\ r = r0.ren ρ /\ (oneB ρ = true -> resIn ρ rs = true -> lk rs j = some r0)) ∨ lk l i = some r
 | [], l, i, r, hl => .inr hl
 | (j, r0) :: rs, l, i, r, hl => by
   simp only [renR] at hl
   rw [qQ3] at hl
   split at hl
   ·rename_i e
    cases hl
    exact .inl ⟨j, r0, .head _, e, rfl, fun _ _ => by rw [qQ3, if_pos rfl]⟩
   ·rename_i hne
    rcases renR_lk hl with ⟨j', r', hm, he, hr, hlk⟩ | hr
    ·refine .inl ⟨j', r', .tail _ hm, he, hr, fun h1 h2 => ?_⟩
     simp only [resIn, Bool.and_eq_true] at h2
     rw [qQ3, if_neg]
     ·exact hlk h1 h2.2.2
     ·rintro rfl; exact hne he
    ·exact .inr hr
theorem gones_lk {ρ : List (Nat × Nat)} : ∀ {l : List (Nat × Res)} {i : Nat} {r : Res}, lk (gones ρ l) i = some r -> r = .gone ∨ (inv ρ i = none /\ lk l i = some r)
 | l, i, r, hl => by
   induction ρ with
   | nil => exact .inr ⟨rfl, hl⟩
   | cons a ρ ih =>
     obtain ⟨j, i'⟩ := a
     simp only [gones] at hl
     rw [qQ3] at hl
     split at hl
     ·cases hl; exact .inl rfl
     ·rename_i hne
      rcases ih hl with h | ⟨h1, h2⟩
      ·exact .inl h
      ·right
       refine ⟨?_, h2⟩
       simp only [inv]
       have : Nat.beq i' i = false := by cases hb : Nat.beq i' i with
        | false => rfl
        | true => exact absurd (Nat.eq_of_beq_eq_true hb) hne
       rw [this]; exact h1
theorem resIn_ok {ρ : List (Nat × Nat)} : ∀ {rs : List (Nat × Res)}, resIn ρ rs = true -> ∀ j r, (j, r) ∈ rs -> keyB ρ j = true /\ r.inB ρ = true
 | [], _, j, r, hm => by simp at hm
 | (j', r') :: rs, hb, j, r, hm => by
   simp only [resIn, Bool.and_eq_true] at hb
   rcases List.mem_cons.1 hm with e | hm
   ·cases e; exact ⟨hb.1, hb.2.1⟩
   ·exact resIn_ok hb.2.2 j r hm
def newB (A : St) (ρ : List (Nat × Nat)) (rs rs' : List (Nat × Res)) (kp : List Nat) : List (Nat × Nat) -> Prop
 | [] => True
 | (j, i) :: ρ' => (qW9 A i = true ∨ (lk ρ j = some i /\ (memN j kp = true ∨ ∃ T cs T' cs' b, lk rs j = some (.box T cs (some b)) /\ lk rs' j = some (.box T' cs' (some b))))) /\ newB A ρ rs rs' kp ρ'
theorem newB_ok {ρ : List (Nat × Nat)} {rs rs' : List (Nat × Res)} {kp : List Nat} : ∀ {ρ' : List (Nat × Nat)}, newB A ρ rs rs' kp ρ' -> ∀ j i, lk ρ' j = some i -> (qW9 A i = true ∨ (lk ρ j = some i /\ (memN j kp = true ∨ ∃ T cs T' cs' b, lk rs j = some (.box T cs (some b)) /\ lk rs' j = some (.box T' cs' (some b)))))
 | [], _, _, _, hl => by simp [lk] at hl
 | (j', i') :: ρ', hn, j, i, hl => by
   rw [qQ3] at hl
   split at hl
   ·rename_i e; subst e; cases hl; exact hn.1
   ·exact newB_ok hn.2 j i hl
theorem lk_inv {ρ : List (Nat × Nat)} {i j : Nat} (h1 : oneB ρ = true) (hi : inv ρ i = some j) : lk ρ j = some i := by
 induction ρ with
 | nil => simp [inv] at hi
 | cons a ρ ih =>
   obtain ⟨j', i'⟩ := a
   simp only [oneB, Bool.and_eq_true] at h1
   simp only [inv] at hi
   rw [qQ3]
   cases hb : Nat.beq i' i with
   | true =>
     rw [hb] at hi
     simp at hi
     subst hi
     rw [if_pos rfl, Nat.eq_of_beq_eq_true hb]
   | false =>
     rw [hb] at hi
     simp at hi
     have := ih h1.2.2 hi
     rw [if_neg]
     ·exact this
     ·rintro rfl
      rw [this] at h1
      simp at h1
def Wanted (A : St) (all : Array Oper) (op : Oper) : Prop := op.guard = none ∨ ∃ j want b, op.guard = some (j, want) /\ gdOf A all j want = some b /\ b = true
theorem Wanted.ok {all : Array Oper} {op : Oper} (hs : Sat o h A tm w) (hw : Wanted A all op) : Region.wanted op (yielded all tm) = true := by
 rcases hw with hg | ⟨j, want, b, hg, hb, ht⟩
 ·simp [Region.wanted, hg]
 ·simp [Region.wanted, hg, gdOf_true hs hb ht]
def DoesK (P : Program) (f : FuncId) (ys : List EV) (rs : List (Nat × Res)) (y : SV) (rs' : List (Nat × Res)) (kp : List Nat) : Prop :=
 ∀ o h args w, Sat o h ⟨ys.length, idx 0 ys, rs⟩ args w -> Calls P f args w fun e w' => ∃ v o' h', e = .returned v /\ Sat o' h' ⟨1, [(0, y)], rs'⟩ #[v] w' /\ Ext o w o' w' /\ ∀ j ∈ kp, h' j = h j
theorem DoesF.toK {f : FuncId} {ys : List EV} {rs rs' : List (Nat × Res)} {y : SV} (D : DoesF P f ys rs y rs') : DoesK P f ys rs y rs' [] := fun o h args w hs =>
 (D o h args w hs).mono fun _ _ ⟨v, o', h', a, b, c⟩ => ⟨v, o', h', a, b, c, fun j hj => by cases hj⟩
theorem call_wp0 {op : Oper} {c : Call} {g m : Nat} {kp : List Nat} {ks : Nat -> Nat} {caps : Nat -> Nat -> CV} {p : Prop} {f : Operand} {ys1 ys : List EV} {rs rs' : List (Nat × Res)} {y : SV} {K : Act -> World -> Prop} {QQ : Exit -> Act -> World -> Prop}
  (D : DoesK P g ys rs y rs' kp) (eg : ∀ args w, (callFunc g args).run P w = .ok (.enter g args) w) (ρ ρ' : List (Nat × Nat)) (L : List Nat) (hs : Sat o h A tm w)
  (ho : op.op = .call c) (hc : c.callee = .value f) (hf : rd A f = some (.c (.clo g m ks caps), p)) (hp : p)
  (hys : ys = ys1 ++ capE ks caps m 0) (hargs : argsP A ρ L c.args.toList ys1) (h1 : oneB ρ = true) (hR : subR ρ A rs)
  (h1' : oneB ρ' = true) (hnew : newB A ρ rs rs' kp ρ') (hy : y.inB ρ' = true) (hrs : resIn ρ' rs' = true) (hflat : L = [] ∨ (SvFlat y /\ ∀ j r, (j, r) ∈ rs' -> ResFlat r))
  (hn : ∀ o2 h2 v w1, Sat o2 h2 ⟨A.n, A.sl, renR ρ' rs' (gones ρ A.rs)⟩ tm w1 -> SvOk o2 h2 w1 (y.ren ρ') v -> Ext o w o2 w1 -> K ((⟨tm, []⟩ : Act).put op.dst v) w1) :
  op.wp P ⟨tm, []⟩ w K QQ := by
 unfold Oper.wp
 show op.upon P ⟨tm, []⟩ _ _ ((execOp (evl tm) op).run P w)
 obtain ⟨bs, hfv, hbs⟩ := qY6 hs hf hp
 obtain ⟨hal, hag⟩ := argsP_ok hs hargs
 generalize hargsv : (c.args.map (evl tm) ++ ((List.range m).map fun j => Value.pointer (some ⟨bs j, 0, none⟩)).toArray) = args
 have hrun : (execOp (evl tm) op).run P w = .ok (.enter g args) w := by
  simp only [execOp, ho, resolve, hc, hfv]
  simp only [Deferred.ofValue, Sem.run_bind, Sem.run_pure, Result.andThen_ok, invoke, Array.empty_append]
  rw [hargsv]
  exact eg args w
 rw [hrun]
 generalize ho0 : viewO ρ (fun i => memN i L) o = o0
 generalize hh0 : viewH ρ h = h0
 have hk0 : Keep o w o0 w := by rw [<-ho0]; exact keep_view ρ _
 -- the callee's start
 have hs0 : Sat o0 h0 ⟨ys.length, idx 0 ys, rs⟩ args w := by
  have hsz : args.size = ys.length := by
   rw [<-hargsv, hys]; simp [capE_length]; rw [<-hal]; simp
  refine ⟨hsz, by rw [<-ho0]; exact tags_view hs ρ _, fun s x hl => ?_, fun j r hl => ?_⟩
  ·obtain ⟨_, hlts, y0, hy0, rfl⟩ := idx_lt ys 0 s x hl
   rw [Nat.sub_zero] at hy0
   show EvOk o0 h0 w y0 _
   have hcl : c.args.size = ys1.length := by rw [<-hal]; simp
   rw [hys] at hy0
   by_cases hs1 : s < ys1.length
   ·rw [List.getElem?_append_left hs1] at hy0
    obtain ⟨x0, hx0, hok⟩ := hag s y0 hy0
    rw [ho0, hh0] at hok
    have : args.getD s undef = evl tm x0 := by
     rw [<-hargsv, Array.getD_eq_getD_getElem?, Array.getElem?_append_left (by simpa [hcl] using hs1), Array.getElem?_map]
     have : c.args[s]? = some x0 := by simpa using hx0
     rw [this]; rfl
    rw [this]; exact hok
   ·rw [List.getElem?_append_right (by omega)] at hy0
    have hsm : s - ys1.length < m := by
     have := (List.getElem?_eq_some_iff.1 hy0).1
     rw [capE_length] at this; exact this
    rw [capE_get ks caps m 0 _ hsm, Nat.zero_add] at hy0
    cases hy0
    obtain ⟨b1, b2⟩ := hbs _ hsm
    have : args.getD s undef = .pointer (some ⟨bs (s - ys1.length), 0, none⟩) := by
     rw [<-hargsv, Array.getD_eq_getD_getElem?, Array.getElem?_append_right (by simp [hcl]; omega)]
     simp [hcl, List.getElem?_range hsm]
    rw [this]
    refine ⟨bs (s - ys1.length), 0, by simp, (hk0 _ b1).1, fun e' q' he' hq' => ?_⟩
    obtain ⟨u, hu, hx⟩ := b2 q' hq'
    have : e' = 0 := by omega
    subst this
    exact ⟨u, by simpa using hu, hx.keep hk0⟩
  ·obtain ⟨i, hi, hr⟩ := subR_ok hR j r hl
   rw [<-ho0, <-hh0]
   exact (hs.res i _ hr).view h1 hi
 refine Calls.mono (D o0 h0 args w hs0) ?_
 rintro e w1 ⟨v, o1, h1f, rfl, hs1, hx1, hkp⟩
 show K ((⟨tm, []⟩ : Act).put op.dst v) w1
 -- the caller's tags and handles behind the call
 let newT : Nat -> Tag := fun b => match o1 b with
  | .hd j => (match lk ρ' j with | some i => .hd i | none => .no)
  | t => t
 let o2 : Nat -> Tag := fun b => match o b with
  | .sh => .sh
  | .no => if b < w.heap.size then .no else newT b
  | .hd i => (match inv ρ i with | some _ => newT b | none => .hd i)
 let h2 : Nat -> Value := fun i => match inv ρ' i with
  | some j => h1f j
  | none => h i
 have hview : ∀ b, o0 b = (match o b with | .hd i => (match inv ρ i with | some j => .hd j | none => bif memN i L then .sh else .no) | t => t) := fun b => by rw [<-ho0]; rfl
 have hsh : ∀ b, o b = .sh -> o2 b = .sh /\ w1.heap[b]? = w.heap[b]? := fun b hb => by
  have h0b : o0 b = .sh := by rw [hview, hb]
  refine ⟨by simp [o2, hb], (hx1.sh b h0b ((hs.tags b).2 hb)).2⟩
 have hno : ∀ b, o b = .no -> b < w.heap.size -> o2 b = .no /\ w1.heap[b]? = w.heap[b]? := fun b hb hlt' => by
  have h0b : o0 b = .no := by rw [hview, hb]
  exact ⟨by simp [o2, hb, hlt'], (hx1.no b h0b hlt').2⟩
 have hkept : ∀ b i, o b = .hd i -> inv ρ i = none -> o2 b = .hd i /\ w1.heap[b]? = w.heap[b]? := fun b i hb hi => by
  have hlt' := (hs.tags b).1 i hb
  refine ⟨by simp [o2, hb, hi], ?_⟩
  have h0b : o0 b = bif memN i L then .sh else .no := by rw [hview, hb]; simp [hi]
  cases hm : memN i L with
  | true => rw [hm] at h0b; exact (hx1.sh b h0b hlt').2
  | false => rw [hm] at h0b; exact (hx1.no b h0b hlt').2
 have hext : Ext o w o2 w1 := ⟨hx1.size, hx1.os, hx1.tape, hx1.output, hx1.drawn, fun b hb _ => hsh b hb, fun b hb hlt' => hno b hb hlt'⟩
 have hh2 : ∀ j i, lk ρ' j = some i -> h2 i = h1f j := fun j i hl => by simp [h2, inv_of h1' hl]
 have hboxp : ∀ j i, lk ρ' j = some i -> qW9 A i = true ∨ (h1f j = h i /\ lk ρ j = some i) := fun j i hl => by
  rcases newB_ok hnew j i hl with hf | ⟨hl0, hm | ⟨T, cs, T', cs', b, hb1, hb2⟩⟩
  ·exact .inl hf
  ·exact .inr ⟨by rw [hkp j (memN_mem hm), <-hh0]; simp [viewH, rn, hl0], hl0⟩
  ·right
   refine ⟨?_, hl0⟩
   obtain ⟨b1, _, e1, e2, _⟩ := hs0.res j _ hb1
   obtain ⟨b2, _, e3, e4, _⟩ := hs1.res j _ hb2
   rw [e4, e3 b rfl]
   rw [e1 b rfl] at e2
   rw [<-e2, <-hh0]
   simp [viewH, rn, hl0]
 have hmen : ∀ i, h2 i ≠ h i -> qW9 A i = true := fun i hne => by
  simp only [h2] at hne
  split at hne
  ·rename_i j hj
   rcases hboxp j i (lk_inv h1' hj) with hf | ⟨he, _⟩
   ·exact hf
   ·exact absurd he hne
  ·exact absurd rfl hne
 have hkeep2 : Keep o1 w1 o2 w1 ∨ (SvFlat y /\ ∀ j r, (j, r) ∈ rs' -> ResFlat r) := by
  rcases hflat with rfl | hf
  ·left
   intro b hb
   refine ⟨?_, rfl⟩
   show o2 b = .sh
   simp only [o2]
   cases hob : o b with
   | sh => rfl
   | no =>
     have h0b : o0 b = .no := by rw [hview, hob]
     by_cases hlt' : b < w.heap.size
     ·have := (hx1.no b h0b hlt').1
      rw [hb] at this; cases this
     ·simp [hlt', newT, hb]
   | hd i =>
     have hlt' := (hs.tags b).1 i hob
     cases hi : inv ρ i with
     | some j => simp [hi, newT, hb]
     | none =>
       have h0b : o0 b = .no := by rw [hview, hob]; simp [hi, memN]
       have := (hx1.no b h0b hlt').1
       rw [hb] at this; cases this
  ·exact .inr hf
 have htag2 : ∀ j i, lk ρ' j = some i -> ∀ b, o1 b = .hd j -> o2 b = .hd i := fun j i hl b hb => by
  simp only [o2]
  cases hob : o b with
  | sh =>
    have h0b : o0 b = .sh := by rw [hview, hob]
    have := (hx1.sh b h0b ((hs.tags b).2 hob)).1
    rw [hb] at this; cases this
  | no =>
    have h0b : o0 b = .no := by rw [hview, hob]
    by_cases hlt' : b < w.heap.size
    ·have := (hx1.no b h0b hlt').1
     rw [hb] at this; cases this
    ·simp [hlt', newT, hb, hl]
  | hd i0 =>
    have hlt' := (hs.tags b).1 i0 hob
    cases hi : inv ρ i0 with
    | some j0 => simp [hi, newT, hb, hl]
    | none =>
      exfalso
      have h0b : o0 b = bif memN i0 L then .sh else .no := by rw [hview, hob]; simp [hi]
      cases hm : memN i0 L with
      | true => rw [hm] at h0b; have := (hx1.sh b h0b hlt').1; rw [hb] at this; cases this
      | false => rw [hm] at h0b; have := (hx1.no b h0b hlt').1; rw [hb] at this; cases this
 have hs2 : Sat o2 h2 ⟨A.n, A.sl, renR ρ' rs' (gones ρ A.rs)⟩ tm w1 := by
  refine ⟨hs.size, fun b => ?_, fun s x hl => ?_, fun i r hl => ?_⟩
  ·have hnew1 : ∀ t, newT b = t -> (∀ i, t = .hd i -> b < w1.heap.size) /\ (t = .sh -> b < w1.heap.size) := by
    intro t ht
    cases hob1 : o1 b with
    | no => simp [newT, hob1] at ht; subst ht; simp
    | sh => have := (hs1.tags b).2 hob1; exact ⟨fun _ _ => this, fun _ => this⟩
    | hd j => have := (hs1.tags b).1 j hob1; exact ⟨fun _ _ => this, fun _ => this⟩
   simp only [o2]
   cases hob : o b with
   | sh => have := Nat.lt_of_lt_of_le ((hs.tags b).2 hob) hx1.size; exact ⟨fun _ _ => this, fun _ => this⟩
   | no =>
     by_cases hlt' : b < w.heap.size
     ·simp [hlt']
     ·simp only [hlt', if_false]; exact hnew1 _ rfl
   | hd i => have := Nat.lt_of_lt_of_le ((hs.tags b).1 i hob) hx1.size; exact ⟨fun _ _ => this, fun _ => this⟩
  ·refine SvOk.hupd (h := h) (fun j hj => ?_) ((hs.slot s x hl).keep hsh)
   have := hmen j hj
   simp only [qW9, Bool.and_eq_true] at this
   exact freshS_ok this.1 s x hl
  ·rcases renR_lk hl with ⟨j, r0, hm, hj, rfl, hlk⟩ | hl
   ·obtain ⟨hkj, hinr⟩ := resIn_ok hrs j r0 hm
    obtain ⟨i', hi'⟩ := keyB_ok hkj
    have : i' = i := by rw [<-hj]; simp [rn, hi']
    subst this
    exact ResOk.back hi' hinr hh2 (htag2 j i' hi') (hkeep2.imp id fun hf => hf.2 j r0 hm) (hs1.res j r0 (hlk h1' hrs))
   ·rcases gones_lk hl with rfl | ⟨hi, hl⟩
    ·trivial
    ·have hf : ∀ j, h2 j ≠ h j -> i ≠ j /\ r.men j = false := fun j hj => by
      have := hmen j hj
      simp only [qW9, Bool.and_eq_true] at this
      exact freshR_ok this.2 i r hl
     exact ResOk.chg hsh (fun b hb => hkept b i hb hi) (Classical.byContradiction fun hne => (hf i hne).1 rfl) (fun j hj => (hf j hj).2) (hs.res i r hl)
 have hv := hs1.slot 0 y (by rw [qQ3, if_pos rfl])
 exact hn o2 h2 v w1 hs2 (SvOk.back hy hh2 (hkeep2.imp id fun hf => hf.1) hv) hext
theorem call_wpK {op : Oper} {c : Call} {d g m : Nat} {kp : List Nat} {ks : Nat -> Nat} {caps : Nat -> Nat -> CV} {p : Prop} {f : Operand} {ys1 ys : List EV} {rs rs' : List (Nat × Res)} {y : SV} {K : Act -> World -> Prop} {QQ : Exit -> Act -> World -> Prop}
  (D : DoesK P g ys rs y rs' kp) (eg : ∀ args w, (callFunc g args).run P w = .ok (.enter g args) w) (ρ ρ' : List (Nat × Nat)) (L : List Nat) (hs : Sat o h A tm w)
  (ho : op.op = .call c) (hd : op.dst = some d) (hlt : Nat.blt d A.n = true) (hc : c.callee = .value f) (hf : rd A f = some (.c (.clo g m ks caps), p)) (hp : p)
  (hys : ys = ys1 ++ capE ks caps m 0) (hargs : argsP A ρ L c.args.toList ys1) (h1 : oneB ρ = true) (hR : subR ρ A rs)
  (h1' : oneB ρ' = true) (hnew : newB A ρ rs rs' kp ρ') (hy : y.inB ρ' = true) (hrs : resIn ρ' rs' = true) (hflat : L = [] ∨ (SvFlat y /\ ∀ j r, (j, r) ∈ rs' -> ResFlat r))
  (hn : ∀ o2 h2 v w1, Sat o2 h2 ⟨A.n, (d, y.ren ρ') :: A.sl, renR ρ' rs' (gones ρ A.rs)⟩ (tm.setIfInBounds d v) w1 -> Ext o w o2 w1 -> K ⟨tm.setIfInBounds d v, []⟩ w1) :
  op.wp P ⟨tm, []⟩ w K QQ := by
 have hlt : d < A.n := by simpa [Nat.blt, Nat.succ_le_iff] using hlt
 refine call_wp0 D eg ρ ρ' L hs ho hc hf hp hys hargs h1 hR h1' hnew hy hrs hflat fun o2 h2 v w1 hs2 hv hext => ?_
 have hput : (⟨tm, []⟩ : Act).put op.dst v = ⟨tm.setIfInBounds d v, []⟩ := by simp [Act.put, hd]
 rw [hput]
 exact hn o2 h2 v w1 (hs2.put (A := ⟨A.n, A.sl, renR ρ' rs' (gones ρ A.rs)⟩) hlt hv) hext
theorem call_wp {op : Oper} {c : Call} {d g m : Nat} {ks : Nat -> Nat} {caps : Nat -> Nat -> CV} {p : Prop} {f : Operand} {ys1 ys : List EV} {rs rs' : List (Nat × Res)} {y : SV} {K : Act -> World -> Prop} {QQ : Exit -> Act -> World -> Prop}
  (D : DoesF P g ys rs y rs') (eg : ∀ args w, (callFunc g args).run P w = .ok (.enter g args) w) (ρ ρ' : List (Nat × Nat)) (L : List Nat) (hs : Sat o h A tm w)
  (ho : op.op = .call c) (hd : op.dst = some d) (hlt : Nat.blt d A.n = true) (hc : c.callee = .value f) (hf : rd A f = some (.c (.clo g m ks caps), p)) (hp : p)
  (hys : ys = ys1 ++ capE ks caps m 0) (hargs : argsP A ρ L c.args.toList ys1) (h1 : oneB ρ = true) (hR : subR ρ A rs)
  (h1' : oneB ρ' = true) (hnew : newB A ρ rs rs' [] ρ') (hy : y.inB ρ' = true) (hrs : resIn ρ' rs' = true) (hflat : L = [] ∨ (SvFlat y /\ ∀ j r, (j, r) ∈ rs' -> ResFlat r))
  (hn : ∀ o2 h2 v w1, Sat o2 h2 ⟨A.n, (d, y.ren ρ') :: A.sl, renR ρ' rs' (gones ρ A.rs)⟩ (tm.setIfInBounds d v) w1 -> Ext o w o2 w1 -> K ⟨tm.setIfInBounds d v, []⟩ w1) :
  op.wp P ⟨tm, []⟩ w K QQ :=
 call_wpK D.toK eg ρ ρ' L hs ho hd hlt hc hf hp hys hargs h1 hR h1' hnew hy hrs hflat hn
theorem KW.call {all : Array Oper} {op : Oper} {rest : List Oper} {c : Call} {d g m : Nat} {ks : Nat -> Nat} {caps : Nat -> Nat -> CV} {p : Prop} {f : Operand} {ys1 ys : List EV} {rs rs' : List (Nat × Res)} {y : SV}
  (D : DoesF P g ys rs y rs') (eg : ∀ args w, (callFunc g args).run P w = .ok (.enter g args) w) (ρ ρ' : List (Nat × Nat)) (L : List Nat)
  (hw : Wanted A all op) (ho : op.op = .call c) (hd : op.dst = some d) (hlt : Nat.blt d A.n = true) (hc : c.callee = .value f) (hf : rd A f = some (.c (.clo g m ks caps), p)) (hp : p)
  (hys : ys = ys1 ++ capE ks caps m 0) (hargs : argsP A ρ L c.args.toList ys1) (h1 : oneB ρ = true) (hR : subR ρ A rs)
  (h1' : oneB ρ' = true) (hnew : newB A ρ rs rs' [] ρ') (hy : y.inB ρ' = true) (hrs : resIn ρ' rs' = true) (hflat : L = [] ∨ (SvFlat y /\ ∀ j r, (j, r) ∈ rs' -> ResFlat r))
  (hn : KW P (.ops all rest :: k) .normal ⟨A.n, (d, y.ren ρ') :: A.sl, renR ρ' rs' (gones ρ A.rs)⟩ Q) :
  KW P (.ops all (op :: rest) :: k) .normal A Q := by
 intro o h tm w hs
 show wpList P all (kq P (lift Q o w) k) (op :: rest) ⟨tm, []⟩ w
 unfold wpList
 rw [if_pos (hw.ok hs)]
 left
 exact call_wp D eg ρ ρ' L hs ho hd hlt hc hf hp hys hargs h1 hR h1' hnew hy hrs hflat fun o2 h2 v w1 hs2 hext =>
  wpList_mono (fun e a w'' hq => qB7 (qW2 hext) k e a w'' hq) rest _ w1 (hn o2 h2 _ w1 hs2)
theorem KW.callK {all : Array Oper} {op : Oper} {rest : List Oper} {c : Call} {d g m : Nat} {kp : List Nat} {ks : Nat -> Nat} {caps : Nat -> Nat -> CV} {p : Prop} {f : Operand} {ys1 ys : List EV} {rs rs' : List (Nat × Res)} {y : SV}
  (D : DoesK P g ys rs y rs' kp) (eg : ∀ args w, (callFunc g args).run P w = .ok (.enter g args) w) (ρ ρ' : List (Nat × Nat)) (L : List Nat)
  (hw : Wanted A all op) (ho : op.op = .call c) (hd : op.dst = some d) (hlt : Nat.blt d A.n = true) (hc : c.callee = .value f) (hf : rd A f = some (.c (.clo g m ks caps), p)) (hp : p)
  (hys : ys = ys1 ++ capE ks caps m 0) (hargs : argsP A ρ L c.args.toList ys1) (h1 : oneB ρ = true) (hR : subR ρ A rs)
  (h1' : oneB ρ' = true) (hnew : newB A ρ rs rs' kp ρ') (hy : y.inB ρ' = true) (hrs : resIn ρ' rs' = true) (hflat : L = [] ∨ (SvFlat y /\ ∀ j r, (j, r) ∈ rs' -> ResFlat r))
  (hn : KW P (.ops all rest :: k) .normal ⟨A.n, (d, y.ren ρ') :: A.sl, renR ρ' rs' (gones ρ A.rs)⟩ Q) :
  KW P (.ops all (op :: rest) :: k) .normal A Q := by
 intro o h tm w hs
 show wpList P all (kq P (lift Q o w) k) (op :: rest) ⟨tm, []⟩ w
 unfold wpList
 rw [if_pos (hw.ok hs)]
 left
 exact call_wpK D eg ρ ρ' L hs ho hd hlt hc hf hp hys hargs h1 hR h1' hnew hy hrs hflat fun o2 h2 v w1 hs2 hext =>
  wpList_mono (fun e a w'' hq => qB7 (qW2 hext) k e a w'' hq) rest _ w1 (hn o2 h2 _ w1 hs2)
theorem KW.len (s : Nat) {n k' : Nat} {f : Nat -> Nat -> CV} {x : CV} (hl : lk A.sl s = some (.e (.c x))) (hx : x = .sl n k' f) (hk : n ≤ 9223372036854775807 -> KW P k e A Q) : KW P k e A Q := by
 subst hx
 intro o h tm w hs
 obtain ⟨a, cap, _, h1, h2, _⟩ := hs.slot s _ hl
 exact hk (by simp only [maxLen] at h2; omega) o h tm w hs
theorem KW.lenR (i : Nat) {E n k' : Nat} {f : Nat -> Nat -> CV} {x : CV} (hl : lk A.rs i = some (.own E x)) (hx : x = .sl n k' f) (hk : n ≤ 9223372036854775807 -> KW P k e A Q) : KW P k e A Q := by
 subst hx
 intro o h tm w hs
 obtain ⟨vs, hown, _⟩ := hs.res i _ hl
 refine hk ?_ o h tm w hs
 rcases hown.2 with ⟨_, h0⟩ | ⟨g, cap, cur, _, _, _, h1, h2, _⟩
 ·omega
 ·simp only [maxLen] at h2; omega
end
def errV (T : Nat) (n : Int) : Value := if n = 0 then .nilIface else .iface T (.int .i64 n)
@[simp] theorem isNilB_errV (T : Nat) (n : Int) : qY4 (errV T n) = decide (n = 0) := by unfold errV; split <;> simp_all [qY4]
@[simp] theorem qQ7 (T : Nat) (n : Int) : ifcV (errV T n) := by unfold errV; split <;> simp [ifcV]
def intss (ls : List (List Int)) : CV := .sl ls.length 1 (fun e _ => qZ5 (ls.getD e []))
abbrev iV (n : Int) : EV := .c (.lit (.int .i64 n))
abbrev bV (b : Bool) : EV := .c (.lit (.bool b))
abbrev sI (n : Int) : SV := .e (.c (.lit (.int .i64 n)))
abbrev sB (b : Bool) : SV := .e (.c (.lit (.bool b)))
end Go.Sy
end
section
namespace Go.Sy
variable [Drw]
structure Sub (ρ : List (Nat × Nat)) (A B : St) : Prop where
 one : oneB ρ = true
 n : B.n = A.n
 s : subS ρ A B.sl
 r : subR ρ A B.rs
def ToQ (P : Program) (k : List K) (Q : Exit -> St -> Prop) {σ : Type} (I : σ -> St) (R : σ -> Prop) : Exit -> St -> Prop
 | .normal, A' => ∃ s, R s /\ ∃ ρ, Sub ρ A' (I s)
 | e, A' => KW P k e A' Q
def RetQ (rv : List ResultVar) (y : SV) (rs' : List (Nat × Res)) : Exit -> St -> Prop := fun e A' =>
 (e = .ret ∨ e = .normal) /\ ∃ y0 ρ, retB A' rv = some y0 /\ oneB ρ = true /\ y0 = y.ren ρ /\ subR ρ A' rs'
section
variable {P : Program} {lay : Lay} {A A' : St} {Q : Exit -> St -> Prop} {k : List K} {e : Exit} {σ : Type} {I : σ -> St} {R : σ -> Prop}
theorem KW.to (s : σ) (hR : R s) (ρ : List (Nat × Nat)) (h : Sub ρ A (I s)) : KW P [] .normal A (ToQ P k Q I R) := KW.done ⟨s, hR, ρ, h⟩
theorem KW.out (h : KW P k e A Q) (he : e ≠ .normal) : KW P [] e A (ToQ P k Q I R) := KW.done (by cases e <;> first | exact h | exact absurd rfl he)
theorem KW.outX {id : Nat} (h : KW P k (.exit id) A Q) : KW P [] (.exit id) A (ToQ P k Q I R) := KW.done h
theorem KW.outR (h : KW P k .ret A Q) : KW P [] .ret A (ToQ P k Q I R) := KW.done h
theorem KW.lp {c : Code} (I : σ -> St) (R : σ -> Prop) (m : σ -> Nat) (s : σ) (hR : R s) (ρ : List (Nat × Nat)) (h : Sub ρ A (I s))
  (round : ∀ s, R s -> KW P [.code c] .normal (I s) (ToQ P k Q I fun s' => R s' /\ m s' < m s)) : KW P (.code (.loop c) :: k) .normal A Q := by
 refine KW.loop (σ := {s : σ // R s}) (fun s => I s.1) (fun s => m s.1) ⟨s, hR⟩ (fun o h' tm w hs => ⟨_, _, hs.sub ρ h.one h.n h.s h.r⟩) (fun s => KW.mono ?_ (round s.1 s.2))
 intro e A' hq
 cases e with
 | normal =>
   obtain ⟨s', ⟨hR', hlt⟩, ρ, h⟩ := hq
   exact ⟨⟨s', hR'⟩, hlt, fun o h' tm w hs => ⟨_, _, hs.sub ρ h.one h.n h.s h.r⟩⟩
 | _ => exact hq
theorem KW.join {x : K} (I : σ -> St) (R : σ -> Prop) (h1 : KW P [x] .normal A (ToQ P k Q I R)) (h2 : ∀ s, R s -> KW P k .normal (I s) Q) : KW P (x :: k) .normal A Q := by
 refine KW.cut (k := k) (ToQ P k Q I R) [x] h1 ?_
 intro e A' hq
 cases e with
 | normal =>
   obtain ⟨s, hR, ρ, h⟩ := hq
   exact KW.sub ρ h.one h.n h.s h.r (h2 s hR)
 | _ => exact hq
theorem KW.fin {rv : List ResultVar} {y y0 : SV} {rs' : List (Nat × Res)} (ρ : List (Nat × Nat)) (h1 : retB A rv = some y0) (h2 : oneB ρ = true) (h3 : y0 = y.ren ρ) (h4 : subR ρ A rs') : KW P [] .ret A (RetQ rv y rs') :=
 KW.done ⟨.inl rfl, y0, ρ, h1, h2, h3, h4⟩
theorem KW.finN {rv : List ResultVar} {y y0 : SV} {rs' : List (Nat × Res)} (ρ : List (Nat × Nat)) (h1 : retB A rv = some y0) (h2 : oneB ρ = true) (h3 : y0 = y.ren ρ) (h4 : subR ρ A rs') : KW P [] .normal A (RetQ rv y rs') :=
 KW.done ⟨.inr rfl, y0, ρ, h1, h2, h3, h4⟩
theorem DoesF.body {f : FuncId} {fn : Func} {c : Code} {ys : List EV} {rs rs' : List (Nat × Res)} {y : SV} {rv : List ResultVar} (n : Nat) (hf : P.funcs[f]? = some fn) (hb : fn.body = some c) (hnt : fn.ntmps = n) (hn : Nat.ble ys.length n = true)
  (hrv : fn.results.toList = rv) (hk : KW P [.code c] .normal ⟨n, idx 0 ys, rs⟩ (RetQ rv y rs')) : DoesF P f ys rs y rs' := by
 subst hrv
 exact DoesF.of n hf hb hnt hn hk
def keptR (ρ : List (Nat × Nat)) (A : St) : List (Nat × Nat) -> Prop
 | [] => True
 | (j, t) :: l => lk A.sl t = some (.e (.r (rn ρ j))) /\ keptR ρ A l
def keptIn (c : Code) (ys : List EV) : List (Nat × Nat) -> Prop
 | [] => True
 | (j, t) :: l => stays t c = true /\ lk (idx 0 ys) t = some (.e (.r j)) /\ keptIn c ys l
def RetQK (rv : List ResultVar) (y : SV) (rs' : List (Nat × Res)) (kp : List (Nat × Nat)) : Exit -> St -> Prop := fun e A' =>
 (e = .ret ∨ e = .normal) /\ ∃ y0 ρ, retB A' rv = some y0 /\ oneB ρ = true /\ y0 = y.ren ρ /\ subR ρ A' rs' /\ keptR ρ A' kp
theorem KW.finK {rv : List ResultVar} {y y0 : SV} {rs' : List (Nat × Res)} {kp : List (Nat × Nat)} (ρ : List (Nat × Nat)) (h1 : retB A rv = some y0) (h2 : oneB ρ = true) (h3 : y0 = y.ren ρ) (h4 : subR ρ A rs') (h5 : keptR ρ A kp) : KW P [] .ret A (RetQK rv y rs' kp) :=
 KW.done ⟨.inl rfl, y0, ρ, h1, h2, h3, h4, h5⟩
theorem codeQ_staysL {c : Code} {ys : List EV} {Q : Exit -> Act -> World -> Prop} {a : Act} {w : World} : ∀ (kp : List (Nat × Nat)), keptIn c ys kp -> codeQ P c Q a w ->
  codeQ P c (fun e a' w' => Q e a' w' /\ (e ≠ .outgrown -> ∀ jt ∈ kp, a'.tmps.getD jt.2 undef = a.tmps.getD jt.2 undef)) a w
 | [], _, h => qY2 h fun e a w h => ⟨h, fun _ jt hj => by cases hj⟩
 | (j, t) :: l, hk, h => by
   refine qY2 (codeQ_stays hk.1 rfl (codeQ_staysL l hk.2.2 h)) ?_
   rintro e a' w' ⟨⟨h1, h2⟩, h3⟩
   refine ⟨h1, fun he jt hj => ?_⟩
   rcases List.mem_cons.1 hj with rfl | hj
   ·exact h3 he
   ·exact h2 he jt hj
theorem keptIn_mem {c : Code} {ys : List EV} : ∀ {kp : List (Nat × Nat)}, keptIn c ys kp -> ∀ jt ∈ kp, lk (idx 0 ys) jt.2 = some (.e (.r jt.1))
 | (j, t) :: l, hk, jt, hj => by
   rcases List.mem_cons.1 hj with rfl | hj
   ·exact hk.2.1
   ·exact keptIn_mem hk.2.2 jt hj
theorem keptR_mem {ρ : List (Nat × Nat)} {A : St} : ∀ {kp : List (Nat × Nat)}, keptR ρ A kp -> ∀ jt ∈ kp, lk A.sl jt.2 = some (.e (.r (rn ρ jt.1)))
 | (j, t) :: l, hk, jt, hj => by
   rcases List.mem_cons.1 hj with rfl | hj
   ·exact hk.1
   ·exact keptR_mem hk.2 jt hj
theorem DoesK.body {f : FuncId} {fn : Func} {c : Code} {ys : List EV} {rs rs' : List (Nat × Res)} {y : SV} {rv : List ResultVar} {kl : List Nat} (n : Nat) (kp : List (Nat × Nat)) (hf : P.funcs[f]? = some fn) (hb : fn.body = some c) (hnt : fn.ntmps = n) (hn : Nat.ble ys.length n = true)
  (hrv : fn.results.toList = rv) (hkp : keptIn c ys kp) (hkl : kp.map (·.1) = kl) (hk : KW P [.code c] .normal ⟨n, idx 0 ys, rs⟩ (RetQK rv y rs' kp)) : DoesK P f ys rs y rs' kl := by
 subst hrv
 subst hkl
 subst hnt
 have hn : ys.length ≤ fn.ntmps := by simpa using hn
 intro o h args w hs
 refine calls_of_wp hf hb ?_
 have hsz : args.size = ys.length := hs.size
 have hgd : ∀ s x, lk (idx 0 ys) s = some x -> (args ++ Array.replicate (fn.ntmps - args.size) undef).getD s undef = args.getD s undef := fun s x hl => by
  obtain ⟨_, hlt, _⟩ := idx_lt ys 0 s x hl
  rw [Array.getD_eq_getD_getElem?, Array.getD_eq_getD_getElem?, Array.getElem?_append_left (by omega)]
 have hs' : Sat o h ⟨fn.ntmps, idx 0 ys, rs⟩ (args ++ Array.replicate (fn.ntmps - args.size) undef) w := by
  refine ⟨by simp [hsz]; omega, hs.tags, fun s x hl => ?_, hs.res⟩
  rw [hgd s x hl]; exact hs.slot s x hl
 have hq := codeQ_staysL kp hkp (show codeQ P c _ _ _ from hk o h _ w hs')
 refine wp_mono (codeQ_wp hq) ?_
 rintro e ⟨tm', ds⟩ w' ⟨hl, hst⟩
 obtain ⟨hd, o', h', A', ⟨he, y0, ρ, hr, h1, rfl, hR, hK⟩, hs2, hx⟩ : lift _ o w e ⟨tm', ds⟩ w' := by
  cases e <;> exact hl
 simp only at hd
 subst hd
 obtain ⟨v, hv, hy⟩ := results_ok (P := P) hs2 hr
 have hst' := hst (by rcases he with rfl | rfl <;> simp)
 have hfin : ∃ v o' h', Ending.returned v = .returned v /\ Sat o' h' ⟨1, [(0, y)], rs'⟩ #[v] w' /\ Ext o w o' w' /\ (∀ j ∈ kp.map (·.1), h' j = h j) /\ (results fn tm').run P w' = .ok v w' := by
  refine ⟨v, viewO ρ (fun _ => false) o', viewH ρ h', rfl, ⟨rfl, tags_view hs2 ρ _, fun s x hl => ?_, fun j r hl => ?_⟩, hx.trans ⟨Nat.le_refl _, rfl, rfl, rfl, Nat.le_refl _, fun b hb _ => ⟨viewO_sh hb, rfl⟩, fun b hb _ => ⟨viewO_no hb, rfl⟩⟩, fun j hj => ?_, hv⟩
  ·rw [qQ3] at hl
   split at hl
   ·rename_i e; subst e; cases hl; exact hy.view (keep_view ρ _)
   ·simp [lk] at hl
  ·obtain ⟨i, hi, hr⟩ := subR_ok hR j r hl
   exact (hs2.res i _ hr).view h1 hi
  ·obtain ⟨jt, hjt, rfl⟩ := List.mem_map.1 hj
   have e1 : tm'.getD jt.2 undef = h' (rn ρ jt.1) := hs2.slot _ _ (keptR_mem hK jt hjt)
   have hl0 := keptIn_mem hkp jt hjt
   have e2 : args.getD jt.2 undef = h jt.1 := hs.slot _ _ hl0
   have e3 := hst' jt hjt
   simp only at e3
   rw [hgd _ _ hl0, e1, e2] at e3
   exact e3
 obtain ⟨v, o2, h2, _, g1, g2, g4, g3⟩ := hfin
 rcases he with rfl | rfl
 ·exact ⟨rfl, v, g3, v, o2, h2, rfl, g1, g2, g4⟩
 ·exact ⟨rfl, v, g3, v, o2, h2, rfl, g1, g2, g4⟩
theorem SV.ren_nil {y : SV} (hy : y.inB [] = true) : y.ren [] = y := by
 have hren : ∀ x : EV, x.inB [] = true -> x.ren [] = x := by
  intro x
  have hk : ∀ hs : List Nat, keysB [] hs = true -> rnL [] hs = hs := by
   intro hs
   induction hs with
   | nil => intro _; rfl
   | cons j l ih => intro hb; simp [keysB, keyB, lk] at hb
  induction x with
  | gd b x ih => intro hb; simp only [EV.ren]; rw [ih hb]
  | r i => intro hb; simp [EV.inB, keyB, lk] at hb
  | ah cs q i => intro hb; simp [EV.inB, keyB, lk] at hb
  | pt i k e q => intro hb; simp [EV.inB, keyB, lk] at hb
  | fn g hs => intro hb; simp only [EV.ren]; rw [hk hs hb]
  | _ => intro _; rfl
 cases y with
 | e x => simp only [SV.ren]; rw [hren x hy]
 | tup xs =>
   simp only [SV.ren]
   rw [renL_eq]
   congr 1
   have : ∀ x ∈ xs, EV.ren [] x = x := fun x hx => hren x (inBs_ok hy x hx)
   conv => rhs; rw [<-List.map_id xs]
   exact List.map_congr_left this
theorem KW.callV {all : Array Oper} {op : Oper} {rest : List Oper} {c : Call} {d g m : Nat} {ks : Nat -> Nat} {caps : Nat -> Nat -> CV} {p : Prop} {f : Operand} {ys1 ys : List EV} {y : SV}
  (D : DoesF P g ys [] y []) (eg : ∀ args w, (callFunc g args).run P w = .ok (.enter g args) w) (L : List Nat)
  (hw : Wanted A all op) (ho : op.op = .call c) (hd : op.dst = some d) (hlt : Nat.blt d A.n = true) (hc : c.callee = .value f) (hf : rd A f = some (.c (.clo g m ks caps), p)) (hp : p)
  (hys : ys = ys1 ++ capE ks caps m 0) (hargs : argsP A [] L c.args.toList ys1) (hy : y.inB [] = true) (hflat : L = [] ∨ SvFlat y)
  (hn : KW P (.ops all rest :: k) .normal ⟨A.n, (d, y) :: A.sl, A.rs⟩ Q) : KW P (.ops all (op :: rest) :: k) .normal A Q := by
 refine KW.call D eg [] [] L hw ho hd hlt hc hf hp hys hargs rfl trivial rfl trivial hy rfl (hflat.imp id fun hf => ⟨hf, by simp⟩) ?_
 rw [SV.ren_nil hy]
 exact hn
theorem KW.callV0 {all : Array Oper} {op : Oper} {rest : List Oper} {c : Call} {d g : Nat} {ks : Nat -> Nat} {caps : Nat -> Nat -> CV} {p : Prop} {f : Operand} {ys : List EV} {y : SV}
  (D : DoesF P g ys [] y []) (eg : ∀ args w, (callFunc g args).run P w = .ok (.enter g args) w) (L : List Nat)
  (hw : Wanted A all op) (ho : op.op = .call c) (hd : op.dst = some d) (hlt : Nat.blt d A.n = true) (hc : c.callee = .value f) (hf : rd A f = some (.c (.clo g 0 ks caps), p)) (hp : p)
  (hargs : argsP A [] L c.args.toList ys) (hy : y.inB [] = true) (hflat : L = [] ∨ SvFlat y)
  (hn : KW P (.ops all rest :: k) .normal ⟨A.n, (d, y) :: A.sl, A.rs⟩ Q) : KW P (.ops all (op :: rest) :: k) .normal A Q :=
 KW.callV D eg L hw ho hd hlt hc hf hp (by simp [capE]) hargs hy hflat hn
theorem KW.callC {all : Array Oper} {op : Oper} {rest : List Oper} {c : Call} {d g m : Nat} {ks : Nat -> Nat} {caps : Nat -> Nat -> CV} {p : Prop} {f : Operand} (ys1 : List EV) {y : SV}
  (D : DoesF P g (ys1 ++ capE ks caps m 0) [] y []) (eg : ∀ args w, (callFunc g args).run P w = .ok (.enter g args) w) (L : List Nat)
  (hw : Wanted A all op) (ho : op.op = .call c) (hd : op.dst = some d) (hlt : Nat.blt d A.n = true) (hc : c.callee = .value f) (hf : rd A f = some (.c (.clo g m ks caps), p)) (hp : p)
  (hargs : argsP A [] L c.args.toList ys1) (hy : y.inB [] = true) (hflat : L = [] ∨ SvFlat y)
  (hn : KW P (.ops all rest :: k) .normal ⟨A.n, (d, y) :: A.sl, A.rs⟩ Q) : KW P (.ops all (op :: rest) :: k) .normal A Q :=
 KW.callV D eg L hw ho hd hlt hc hf hp rfl hargs hy hflat hn
theorem KW.callO {all : Array Oper} {op : Oper} {rest : List Oper} {c : Call} {d g m : Nat} {ks : Nat -> Nat} {caps : Nat -> Nat -> CV} {p : Prop} {f : Operand} {ys1 ys : List EV} {E : Nat} {x : CV}
  (D : DoesF P g ys [] (.e (.r 0)) [(0, .own E x)]) (eg : ∀ args w, (callFunc g args).run P w = .ok (.enter g args) w) (L : List Nat)
  (hw : Wanted A all op) (ho : op.op = .call c) (hd : op.dst = some d) (hlt : Nat.blt d A.n = true) (hc : c.callee = .value f) (hf : rd A f = some (.c (.clo g m ks caps), p)) (hp : p)
  (hys : ys = ys1 ++ capE ks caps m 0) (hargs : argsP A [] L c.args.toList ys1) (hfr : qW9 A d = true) (hflat : L = [] ∨ ResFlat (.own E x))
  (hn : KW P (.ops all rest :: k) .normal ⟨A.n, (d, .e (.r d)) :: A.sl, (d, .own E x) :: A.rs⟩ Q) : KW P (.ops all (op :: rest) :: k) .normal A Q := by
 have hfl : L = [] ∨ (SvFlat (.e (.r 0)) /\ ∀ (j : Nat) (r : Res), (j, r) ∈ [(0, Res.own E x)] -> ResFlat r) := by
  rcases hflat with h | h
  ·exact .inl h
  ·refine .inr ⟨trivial, ?_⟩
   intro j r hm
   cases hm with
   | head => exact h
   | tail _ hm => cases hm
 exact KW.call D eg [] [(0, d)] L hw ho hd hlt hc hf hp hys hargs rfl trivial rfl ⟨.inl hfr, trivial⟩ rfl rfl hfl hn
theorem KW.pass {all : Array Oper} {op : Oper} {rest : List Oper} {j d : Nat} {want b : Bool} (hg : op.guard = some (j, want)) (hb : gdOf A all j want = some b) (ht : b = false) (hd : op.dst = some d) (hlt : Nat.blt d A.n = true)
  (hn : KW P (.ops all rest :: k) .normal ⟨A.n, (d, .e (.gd false .dead)) :: A.sl, A.rs⟩ Q) : KW P (.ops all (op :: rest) :: k) .normal A Q := by
 intro o h tm w hs
 have hlt : d < A.n := by simpa [Nat.blt, Nat.succ_le_iff] using hlt
 show wpList P all (kq P (lift Q o w) k) (op :: rest) ⟨tm, []⟩ w
 unfold wpList
 have hy := gdOf_false hs hb ht
 rw [if_neg (by simp [Region.wanted, hg, hy])]
 have hput : (⟨tm, []⟩ : Act).put op.dst undef = ⟨tm.setIfInBounds d undef, []⟩ := by simp [Act.put, hd]
 rw [hput]
 exact hn o h _ w (hs.put hlt (v := undef) (sv := .e (.gd false .dead)) ⟨fun e => Bool.noConfusion e, fun _ => rfl⟩)
end
theorem qQ9 {P : Program} {g : FuncId} {fn : Func} {c : Code} (hf : P.funcs[g]? = some fn) (hn : (fn.name == "runtime.NumGoroutine") = false) (hb : fn.body = some c) : ∀ args w, (callFunc g args).run P w = .ok (.enter g args) w := by
 intro args w
 have h1 : fn.name ≠ "runtime.NumGoroutine" := by simpa using hn
 simp [callFunc, hf, h1, hb]
end Go.Sy
namespace Go.Sy
variable [Drw]
abbrev Fns := List (Nat × (List EV -> Option (SV × Prop)))
def FnsOk (P : Program) (fns : Fns) : Prop := ∀ f F, lk fns f = some F -> (∀ args w, (callFunc f args).run P w = .ok (.enter f args) w) /\ ∀ ys y φ, F ys = some (y, φ) -> φ -> DoesF P f ys [] y []
theorem FnsOk.nil (P : Program) : FnsOk P [] := fun f F h => by simp [lk] at h
theorem FnsOk.cons {P : Program} {fns : Fns} {f : FuncId} {fn : Func} {c : Code} {F : List EV → Option (SV × Prop)} (h : FnsOk P fns) (hf : P.funcs[f]? = some fn) (hn : (fn.name == "runtime.NumGoroutine") = false) (hb : fn.body = some c)
  (hF : ∀ ys y φ, F ys = some (y, φ) -> φ -> DoesF P f ys [] y []) : FnsOk P ((f, F) :: fns) := by
 intro g G hl
 rw [qQ3] at hl
 split at hl
 ·rename_i e; subst e; cases hl; exact ⟨qQ9 hf hn hb, hF⟩
 ·exact h g G hl
def EvEq : EV -> EV -> Prop
 | .c x, .c y => CVEq x y
 | .ag xs, .ag ys => xs.length = ys.length /\ ∀ (q : Nat) x y, xs[q]? = some x -> ys[q]? = some y -> CVEq x y
 | x, y => x = y
def EvEqs : List EV -> List EV -> Prop
 | [], [] => True
 | x :: xs, y :: ys => EvEq x y /\ EvEqs xs ys
 | _, _ => False
theorem EvEqs.len : ∀ {xs ys : List EV}, EvEqs xs ys -> xs.length = ys.length
 | [], [], _ => rfl
 | _ :: xs, _ :: ys, h => by simp [EvEqs.len h.2]
 | [], _ :: _, h => h.elim
 | _ :: _, [], h => h.elim
theorem EvEqs.get : ∀ {xs ys : List EV}, EvEqs xs ys -> ∀ {q : Nat} {y : EV}, ys[q]? = some y -> ∃ x, xs[q]? = some x /\ EvEq x y
 | [], [], _, q, y, h => by simp at h
 | x :: xs, y :: ys, h, 0, y', hy => by simp at hy; subst hy; exact ⟨x, by simp, h.1⟩
 | x :: xs, y :: ys, h, q + 1, y', hy => by simp at hy; obtain ⟨x', h1, h2⟩ := EvEqs.get h.2 hy; exact ⟨x', by simpa using h1, h2⟩
 | [], _ :: _, h, _, _, _ => h.elim
 | _ :: _, [], h, _, _, _ => h.elim
theorem EvOk.conv {o : Nat -> Tag} {h : Nat -> Value} {w : World} {x y : EV} {v : Value} (he : EvEq x y) (hx : EvOk o h w x v) : EvOk o h w y v := by
 cases x with
 | c x => cases y with
   | c y => exact RepV.conv he hx
   | _ => exact absurd he (by simp [EvEq])
 | ag xs => cases y with
   | ag ys =>
     obtain ⟨vs, rfl, h1, h2⟩ := hx
     refine ⟨vs, rfl, h1.trans he.1, fun q y hq => ?_⟩
     have hlt : q < xs.length := by rw [he.1]; exact (List.getElem?_eq_some_iff.1 hq).1
     obtain ⟨u, hu, hr⟩ := h2 q _ (List.getElem?_eq_getElem hlt)
     exact ⟨u, hu, RepV.conv (he.2 q _ y (List.getElem?_eq_getElem hlt) hq) hr⟩
   | _ => exact absurd he (by simp [EvEq])
 | _ => simp only [EvEq] at he; subst he; exact hx
theorem DoesF.conv {P : Program} {f : FuncId} {ys ys' : List EV} {rs rs' : List (Nat × Res)} {y : SV} (he : EvEqs ys ys') (D : DoesF P f ys' rs y rs') : DoesF P f ys rs y rs' := by
 intro o h args w hs
 refine D o h args w ⟨by simpa [he.len] using hs.size, hs.tags, fun s x hl => ?_, hs.res⟩
 obtain ⟨_, hlt, y, hy, rfl⟩ := idx_lt ys' 0 s x hl
 obtain ⟨x, hx, hxy⟩ := he.get hy
 have := hs.slot (0 + (s - 0)) _ (idx_get ys 0 _ x hx)
 simp only [Nat.sub_zero, Nat.zero_add] at this
 exact EvOk.conv hxy this
def cvInt : CV -> Int
 | .lit (.int _ z) => z
 | _ => 0
def unI : CV -> List Int
 | .sl n _ f => (List.range n).map fun e => cvInt (f e 0)
 | _ => []
def isI (x : CV) : Prop := CVEq x (qZ5 (unI x))
@[simp] theorem qQ2 (xs : List Int) : unI (qZ5 xs) = xs := by
  unfold unI qZ5
  refine List.ext_getElem (by simp) fun j h1 h2 => ?_
  simp [cvInt, List.getD_eq_getElem?_getD, h2]
@[simp] theorem qQ8 (xs : List Int) : isI (qZ5 xs) := by unfold isI; rw [qQ2]; exact CVEq.refl _
@[simp] theorem unI_nil : unI (.lit (.slice none 0 0)) = [] := rfl
@[simp] theorem isI_nil : isI (.lit (.slice none 0 0)) := ⟨rfl, rfl⟩
theorem isI_drop (xs : List Int) (n lo : Nat) (h : lo + n ≤ xs.length) : isI (.sl n 1 fun e _ => .lit (.int .i64 (xs.getD (e + lo) 0))) /\ unI (.sl n 1 fun e _ => .lit (.int .i64 (xs.getD (e + lo) 0))) = (xs.drop lo).take n := by
 have h2 : unI (.sl n 1 fun e _ => .lit (.int .i64 (xs.getD (e + lo) 0))) = (xs.drop lo).take n := by
  refine List.ext_getElem (by simp [unI]; omega) fun j h1 h2 => ?_
  simp only [unI, List.length_map, List.length_range] at h1
  have : lo + j < xs.length := by omega
  simp [unI, cvInt, List.getD_eq_getElem?_getD, Nat.add_comm j lo, this]
 refine ⟨?_, h2⟩
 unfold isI
 rw [h2]
 refine ⟨by simp; omega, .inr ⟨rfl, fun e q he hq => ?_⟩⟩
 have : lo + e < xs.length := by omega
 simp [CVEq, List.getD_eq_getElem?_getD, he, Nat.add_comm e lo, this]
def isLit : CV -> Bool
 | .lit _ => true
 | _ => false
def evFlatB : EV -> Bool
 | .c x => isLit x
 | _ => false
def evsFlatB : List EV -> Bool
 | [] => true
 | x :: l => evFlatB x && evsFlatB l
def svFlatB : SV -> Bool
 | .e x => evFlatB x
 | .tup xs => evsFlatB xs
theorem evFlatB_ok {x : EV} (h : evFlatB x = true) : EvFlat x := by
 cases x with
 | c x => cases x with
   | lit _ => trivial
   | _ => simp [evFlatB, isLit] at h
 | _ => simp [evFlatB] at h
theorem svFlatB_ok {x : SV} (h : svFlatB x = true) : SvFlat x := by
 cases x with
 | e x => exact evFlatB_ok h
 | tup xs =>
   have : ∀ xs : List EV, evsFlatB xs = true -> ∀ x ∈ xs, EvFlat x := by
    intro xs
    induction xs with
    | nil => intro _ x hx; cases hx
    | cons a l ih =>
      intro h x hx
      simp only [evsFlatB, Bool.and_eq_true] at h
      rcases List.mem_cons.1 hx with e | hx
      ·subst e; exact evFlatB_ok h.1
      ·exact ih h.2 x hx
   exact this xs h
def isSl : CV -> Bool
 | .sl _ _ _ => true
 | _ => false
theorem isSl_ok {x : CV} (h : isSl x = true) : ∃ n k f, x = .sl n k f := by
 cases x with
 | sl n k f => exact ⟨n, k, f, rfl⟩
 | _ => simp [isSl] at h
def argE (A : St) : EV -> Option (EV × List Nat)
 | .c x => some (.c x, [])
 | .ag cs => some (.ag cs, [])
 | .r i => match lk A.rs i with
   | some (.own _ x) => match isSl x with
     | true => some (.c x, [i])
     | false => none
   | _ => none
 | _ => none
def argsE (A : St) : List Operand -> Option (List EV × List Nat × Prop)
 | [] => some ([], [], True)
 | x :: xs => match rd A x with
   | some (z, p) => match argE A z with
     | some (y, L) => match argsE A xs with
       | some (ys, L', q) => some (y :: ys, appN L L', p /\ q)
       | none => none
     | none => none
   | none => none
theorem memN_of {d : Nat} : ∀ {l : List Nat}, d ∈ l -> memN d l = true
 | [], h => by cases h
 | x :: l, h => by
   simp only [memN, Bool.or_eq_true]
   rcases List.mem_cons.1 h with e | h
   ·subst e; left; simp
   ·exact .inr (memN_of h)
theorem argsE_ok {A : St} : ∀ {xs : List Operand} {ys : List EV} {L : List Nat} {p : Prop}, argsE A xs = some (ys, L, p) -> p -> ∀ L0, (∀ i ∈ L, i ∈ L0) -> argsP A [] L0 xs ys
 | [], ys, L, p, h, hp, L0, hL => by
   simp only [argsE, Option.some.injEq, Prod.mk.injEq] at h
   obtain ⟨rfl, rfl, rfl⟩ := h
   trivial
 | x :: xs, ys, L, p, h, hp, L0, hL => by
   simp only [argsE] at h
   split at h
   ·rename_i z p1 hr
    split at h
    ·rename_i y L1 ha
     split at h
     ·rename_i ys' L' q hxs
      simp only [Option.some.injEq, Prod.mk.injEq] at h
      obtain ⟨rfl, rfl, rfl⟩ := h
      rw [appN_eq] at hL
      refine ⟨⟨z, p1, hr, hp.1, ?_⟩, argsE_ok hxs hp.2 L0 fun i hi => hL i (List.mem_append.2 (.inr hi))⟩
      unfold argE at ha
      split at ha
      ·simp only [Option.some.injEq, Prod.mk.injEq] at ha
       obtain ⟨rfl, rfl⟩ := ha
       exact .conv (CVEq.refl _)
      ·simp only [Option.some.injEq, Prod.mk.injEq] at ha
       obtain ⟨rfl, rfl⟩ := ha
       exact .agc rfl fun q x y h1 h2 => by rw [h1] at h2; cases h2; exact CVEq.refl _
      ·split at ha
       ·rename_i i _ E x hl
        split at ha
        ·rename_i hx
         obtain ⟨n, k, f, e⟩ := isSl_ok hx
         simp only [Option.some.injEq, Prod.mk.injEq] at ha
         obtain ⟨rfl, rfl⟩ := ha
         exact .lend hl e (CVEq.refl _) (memN_of (hL _ (List.mem_append.2 (.inl (.head _))))) rfl
        ·cases ha
       ·cases ha
      ·cases ha
     ·cases h
    ·cases h
   ·cases h
def emptyN : List Nat -> Bool
 | [] => true
 | _ => false
def stepC (fns : Fns) (A : St) (op : Oper) : Option (SV × Prop) :=
 match op.op with
 | .call c => match c.callee with
   | .value (.func g) => match lk fns g with
     | some F => match argsE A c.args.toList with
       | some (ys, L, q) => match F ys with
         | some (y, φ) => match y.inB [], emptyN L || svFlatB y with
           | true, true => some (y, q /\ φ)
           | _, _ => none
         | none => none
       | none => none
     | none => none
   | _ => none
 | _ => none
section
variable {P : Program} {lay : Lay} {A A' : St} {Q : Exit -> St -> Prop} {fns : Fns}
theorem KW.slotW {k : List K} {e : Exit} {d n : Nat} {x x' : SV} {sl : List (Nat × SV)} {rs : List (Nat × Res)} (h : ∀ o h w v, SvOk o h w x v -> SvOk o h w x' v) (hn : KW P k e ⟨n, (d, x') :: sl, rs⟩ Q) : KW P k e ⟨n, (d, x) :: sl, rs⟩ Q := by
 refine KW.weaken (A' := ⟨n, (d, x') :: sl, rs⟩) (fun o h' tm w hs => ⟨o, h', ⟨hs.size, hs.tags, fun s y hl => ?_, hs.res⟩, Ext.refl o w⟩) hn
 rw [qQ3] at hl
 split at hl
 ·rename_i e; subst e; cases hl; exact h _ _ _ _ (hs.slot d x (by rw [qQ3, if_pos rfl]))
 ·rename_i hne; exact hs.slot s y (by rw [qQ3, if_neg hne]; exact hl)
theorem stepC_ok (hT : FnsOk P fns) {all : Array Oper} {op : Oper} {rest : List Oper} {k : List K} {y : SV} {φ : Prop} {d : Nat} (hg : Wanted A all op) (hd : op.dst = some d) (hlt : Nat.blt d A.n = true) (h : stepC fns A op = some (y, φ)) (hφ : φ)
  (hn : KW P (.ops all rest :: k) .normal ⟨A.n, (d, y) :: A.sl, A.rs⟩ Q) : KW P (.ops all (op :: rest) :: k) .normal A Q := by
 unfold stepC at h
 split at h
 ·rename_i c ho
  split at h
  ·rename_i g hc
   split at h
   ·rename_i F hF
    split at h
    ·rename_i ys L q ha
     split at h
     ·rename_i y' φ' hy
      split at h
      ·rename_i hin hfl
       simp only [Option.some.injEq, Prod.mk.injEq] at h
       obtain ⟨rfl, rfl⟩ := h
       obtain ⟨he, hD⟩ := hT g F hF
       refine KW.callV0 (hD ys y' φ' hy hφ.2) he L hg ho hd hlt hc rfl trivial (argsE_ok ha hφ.1 L fun _ h => h) hin ?_ hn
       simp only [Bool.or_eq_true] at hfl
       refine hfl.imp (fun h => ?_) svFlatB_ok
       cases L with
       | nil => rfl
       | cons _ _ => simp [emptyN] at h
      ·cases h
     ·cases h
    ·cases h
   ·cases h
  ·cases h
 ·cases h
def stepO (fns : Fns) : List K -> Exit -> St -> Option (List K × Exit × St × Prop)
 | .ops all (o :: rest) :: k, .normal, ⟨n, sl, rs⟩ => match o.guard with
   | none => match o.dst, stepC fns ⟨n, sl, rs⟩ o with
     | some d, some (y, ψ) => match Nat.blt d n with
       | true => some (.ops all rest :: k, .normal, ⟨n, (d, y) :: sl, rs⟩, ψ)
       | false => none
     | _, _ => none
   | some (j, want) => match gdOf ⟨n, sl, rs⟩ all j want, stepC fns ⟨n, sl, rs⟩ o, o.dst with
     | some b, some (.e x, ψ), some d => match Nat.blt d n with
       | true => some (.ops all rest :: k, .normal, ⟨n, (d, .e (.gd b x)) :: sl, rs⟩, b = true -> ψ)
       | false => none
     | _, _, _ => none
 | _, _, _ => none
def run2 (lay : Lay) (fns : Fns) : Nat -> List K -> Exit -> St -> Prop -> List K × Exit × St × Prop
 | 0, k, e, A, φ => (k, e, A, φ)
 | f + 1, k, e, A, φ => match step1 lay k e A with
   | some (k', e', A', ψ) => run2 lay fns f k' e' A' (φ /\ ψ)
   | none => match stepO fns k e A with
     | some (k', e', A', ψ) => run2 lay fns f k' e' A' (φ /\ ψ)
     | none => (k, e, A, φ)
theorem stepO_ok (hT : FnsOk P fns) {k k' : List K} {e e' : Exit} {φ : Prop} (h : stepO fns k e A = some (k', e', A', φ)) (hφ : φ) (hn : KW P k' e' A' Q) : KW P k e A Q := by
 unfold stepO at h
 split at h
 ·split at h
  ·rename_i hg
   split at h
   ·rename_i hd hc
    split at h
    ·rename_i hlt
     simp only [Option.some.injEq, Prod.mk.injEq] at h
     obtain ⟨rfl, rfl, rfl, rfl⟩ := h
     exact stepC_ok hT (.inl hg) hd hlt hc hφ hn
    ·cases h
   ·cases h
  ·rename_i j want hg
   split at h
   ·rename_i b x ψ d hb hc hd
    split at h
    ·rename_i hlt
     simp only [Option.some.injEq, Prod.mk.injEq] at h
     obtain ⟨rfl, rfl, rfl, rfl⟩ := h
     by_cases hbt : b = true
     ·refine stepC_ok hT (.inr ⟨j, want, b, hg, hb, hbt⟩) hd hlt hc (hφ hbt) (KW.slotW (fun o h w v hv => ?_) hn)
      exact ⟨fun _ => hv, fun e => by rw [hbt] at e; cases e⟩
     ·have hbf : b = false := by simpa using hbt
      refine KW.pass hg hb hbf hd hlt (KW.slotW (fun o h w v hv => ?_) hn)
      exact ⟨fun e => absurd e hbt, fun _ => hv.2 rfl⟩
    ·cases h
   ·cases h
 ·cases h
theorem run2_ok (hl : qJ1 P lay) (hT : FnsOk P fns) : ∀ (f : Nat) {k k' : List K} {e e' : Exit} {A A' : St} {φ φ' : Prop}, run2 lay fns f k e A φ = (k', e', A', φ') -> φ' -> KW P k' e' A' Q -> φ /\ KW P k e A Q
 | 0, k, k', e, e', A, A', φ, φ', h, hφ, hn => by
   simp only [run2, Prod.mk.injEq] at h
   obtain ⟨rfl, rfl, rfl, rfl⟩ := h
   exact ⟨hφ, hn⟩
 | f + 1, k, k', e, e', A, A', φ, φ', h, hφ, hn => by
   simp only [run2] at h
   split at h
   ·rename_i k1 e1 A1 ψ hs
    obtain ⟨⟨h1, h2⟩, h3⟩ := run2_ok hl hT f h hφ hn
    exact ⟨h1, step1_ok hl hs h2 h3⟩
   ·split at h
    ·rename_i k1 e1 A1 ψ hs
     obtain ⟨⟨h1, h2⟩, h3⟩ := run2_ok hl hT f h hφ hn
     exact ⟨h1, stepO_ok hT hs h2 h3⟩
    ·simp only [Prod.mk.injEq] at h
     obtain ⟨rfl, rfl, rfl, rfl⟩ := h
     exact ⟨hφ, hn⟩
theorem KW.go (hl : qJ1 P lay) (hT : FnsOk P fns) (f : Nat) {k k' : List K} {e e' : Exit} {φ : Prop} (h : run2 lay fns f k e A True = (k', e', A', φ)) (hφ : φ) (hn : KW P k' e' A' Q) : KW P k e A Q :=
 (run2_ok hl hT f h hφ hn).2
end
end Go.Sy
namespace Go.Sy
variable [Drw]
section
variable {P : Program} {lay : Lay} {A A' B : St} {Q : Exit -> St -> Prop} {fns : Fns} {o : Nat -> Tag} {h : Nat -> Value} {tm : Array Value} {w : World}
structure St.le (B A : St) : Prop where
 n : B.n = A.n
 rs : B.rs = A.rs
 sl : ∀ t x, lk B.sl t = some x -> lk A.sl t = some x
theorem Sat.le (hle : St.le B A) (hs : Sat o h A tm w) : Sat o h B tm w := ⟨hle.n ▸ hs.size, hs.tags, fun s x hl => hs.slot s x (hle.sl s x hl), fun i r hl => hs.res i r (hle.rs ▸ hl)⟩
theorem rd_up (hle : St.le B A) {x : Operand} {r : EV × Prop} (hr : rd B x = some r) : rd A x = some r := by
 cases x with
 | tmp t =>
   simp only [rd] at hr ⊢
   split at hr
   ·rename_i e; rw [hle.sl _ _ e]; exact hr
   ·rename_i x hne e
    rw [hle.sl _ _ e]
    cases x with
    | gd b y => exact (hne b y rfl).elim
    | _ => exact hr
   ·cases hr
 | _ => exact hr
theorem argsE_up (hle : St.le B A) : ∀ {xs : List Operand} {r}, argsE B xs = some r -> argsE A xs = some r
 | [], r, hr => hr
 | x :: xs, r, hr => by
   simp only [argsE] at hr ⊢
   split at hr
   ·rename_i z p e
    rw [rd_up hle e]
    split at hr
    ·rename_i y L e2
     have e2' : argE A z = some (y, L) := by
      unfold argE at e2 ⊢
      rw [<-hle.rs]; exact e2
     simp only [e2']
     split at hr
     ·rename_i e3
      rw [argsE_up hle e3]; exact hr
     ·cases hr
    ·cases hr
   ·cases hr
theorem stepC_up (hle : St.le B A) {op : Oper} {r : SV × Prop} (hr : stepC fns B op = some r) : stepC fns A op = some r := by
 unfold stepC at hr ⊢
 split at hr
 ·split at hr
  ·split at hr
   ·split at hr
    ·rename_i e2
     simp only [argsE_up hle e2]
     exact hr
    ·cases hr
   ·cases hr
  ·cases hr
 ·cases hr
def stepD (lay : Lay) (fns : Fns) (B : St) (ops : Array Oper) (op : Oper) : Option (SV × Prop) :=
 match op.guard with
 | none => match evP lay B op with
   | some r => some r
   | none => stepC fns B op
 | some (j, want) => match gdOf B ops j want with
   | some b => match evP lay B op with
     | some (.e x, φ) => some (.e (.gd b x), b = true -> φ)
     | _ => match stepC fns B op with
       | some (.e x, φ) => some (.e (.gd b x), b = true -> φ)
       | _ => none
   | none => none
theorem stepC_wp (hT : FnsOk P fns) {op : Oper} {y : SV} {φ : Prop} {d : Nat} (hs : Sat o h A tm w) (hd : op.dst = some d) (hlt : Nat.blt d A.n = true) (hc : stepC fns A op = some (y, φ)) (hφ : φ) {K : Act -> World -> Prop} {QQ : Exit -> Act -> World -> Prop}
  (hn : ∀ o2 h2 v w1, Sat o2 h2 ⟨A.n, (d, y) :: A.sl, A.rs⟩ (tm.setIfInBounds d v) w1 -> Ext o w o2 w1 -> K ⟨tm.setIfInBounds d v, []⟩ w1) : op.wp P ⟨tm, []⟩ w K QQ := by
 unfold stepC at hc
 split at hc
 ·rename_i c ho
  split at hc
  ·rename_i g hcc
   split at hc
   ·rename_i F hF
    split at hc
    ·rename_i ys L q ha
     split at hc
     ·rename_i y' φ' hy
      split at hc
      ·rename_i hin hfl
       simp only [Option.some.injEq, Prod.mk.injEq] at hc
       obtain ⟨rfl, rfl⟩ := hc
       obtain ⟨he, hD⟩ := hT g F hF
       have hfl' : L = [] ∨ (SvFlat y' /\ ∀ (j : Nat) (r : Res), (j, r) ∈ ([] : List (Nat × Res)) -> ResFlat r) := by
        simp only [Bool.or_eq_true] at hfl
        refine hfl.imp (fun h => ?_) fun h => ⟨svFlatB_ok h, fun j r hm => by cases hm⟩
        cases L with
        | nil => rfl
        | cons _ _ => simp [emptyN] at h
       refine call_wp (ρ' := []) (rs := []) (rs' := []) (m := 0) (hD ys y' φ' hy hφ.2) he [] L hs ho hd hlt hcc rfl trivial (by simp [capE]) (argsE_ok ha hφ.1 L fun _ h => h) rfl trivial rfl trivial hin rfl hfl' ?_
       intro o2 h2 v w1 hs2 hext
       rw [SV.ren_nil hin] at hs2
       exact hn o2 h2 v w1 hs2 hext
      ·cases hc
     ·cases hc
    ·cases hc
   ·cases hc
  ·cases hc
 ·cases hc
theorem stepD_wp (hl : qJ1 P lay) (hT : FnsOk P fns) {ops : Array Oper} {i : Nat} {op : Oper} (hi : ops[i]? = some op) {y : SV} {φ : Prop} {d : Nat} (hle : St.le B A) (hs : Sat o h A tm w) (hd : op.dst = some d) (hlt : Nat.blt d A.n = true)
  (hc : stepD lay fns B ops op = some (y, φ)) (hφ : φ) {K : Act -> World -> Prop} {QQ : Exit -> Act -> World -> Prop}
  (hn : ∀ o2 h2 v w1, Sat o2 h2 ⟨A.n, (d, y) :: A.sl, A.rs⟩ (tm.setIfInBounds d v) w1 -> Ext o w o2 w1 -> K ⟨tm.setIfInBounds d v, []⟩ w1) : wpOp P ops QQ i K ⟨tm, []⟩ w := by
 have hsB := hs.le hle
 have hlt' : d < A.n := by simpa [Nat.blt, Nat.succ_le_iff] using hlt
 have hput : ∀ v, (⟨tm, []⟩ : Act).put op.dst v = ⟨tm.setIfInBounds d v, []⟩ := fun v => by simp [Act.put, hd]
 have pure_wp : ∀ {x φ'}, evP lay B op = some (x, φ') -> φ' -> ∀ y', (∀ v, SvOk o h w x v -> SvOk o h w y' v) -> (∀ o2 h2 v w1, Sat o2 h2 ⟨A.n, (d, y') :: A.sl, A.rs⟩ (tm.setIfInBounds d v) w1 -> Ext o w o2 w1 -> K ⟨tm.setIfInBounds d v, []⟩ w1) -> op.wp P ⟨tm, []⟩ w K QQ := by
  intro x φ' he hφ' y' hy' hn'
  obtain ⟨v, hr, hv⟩ := evP_ok hl hsB he hφ'
  unfold Oper.wp
  show op.upon P ⟨tm, []⟩ _ _ ((execOp (evl tm) op).run P w)
  rw [hr]
  show K ((⟨tm, []⟩ : Act).put op.dst v) w
  rw [hput]
  exact hn' o h v w (hs.put hlt' (hy' v hv)) (Ext.refl o w)
 have skip_ok : ∀ {x}, SvOk o h w (.e (.gd false x)) undef := fun {x} => ⟨fun e => Bool.noConfusion e, fun _ => rfl⟩
 unfold wpOp
 simp only [hi]
 unfold stepD at hc
 split at hc
 ·rename_i hg
  rw [if_pos (by simp [Region.wanted, hg])]
  left
  split at hc
  ·rename_i r he
   simp only [Option.some.injEq] at hc
   subst hc
   exact pure_wp he hφ y (fun v hv => hv) hn
  ·exact stepC_wp hT hs hd hlt (stepC_up hle hc) hφ hn
 ·rename_i j want hg
  split at hc
  ·rename_i b hb
   have hskip : ∀ x, y = .e (.gd b x) -> b = false -> K (Act.put ⟨tm, []⟩ op.dst undef) w := by
    intro x hy hbf
    subst hy
    rw [hput]
    exact hn o h undef w (hs.put hlt' (by rw [hbf]; exact skip_ok)) (Ext.refl o w)
   have hwant : b = true -> Region.wanted op (yielded ops (⟨tm, []⟩ : Act).tmps) = true := fun hbt => by simp [Region.wanted, hg, gdOf_true hsB hb hbt]
   have hwant' : b = false -> ¬ Region.wanted op (yielded ops (⟨tm, []⟩ : Act).tmps) = true := fun hbf => by simp [Region.wanted, hg, gdOf_false hsB hb hbf]
   split at hc
   ·rename_i x φ' he
    simp only [Option.some.injEq, Prod.mk.injEq] at hc
    obtain ⟨rfl, rfl⟩ := hc
    cases hbb : b with
    | true =>
      rw [if_pos (hwant hbb)]
      left
      exact pure_wp he (hφ hbb) (.e (.gd b x)) (fun v hv => (show SvOk o h w (.e (.gd b x)) v from ⟨fun _ => hv, fun e => by rw [hbb] at e; cases e⟩)) hn
    | false => rw [if_neg (hwant' hbb)]; exact hskip x rfl hbb
   ·split at hc
    ·rename_i x φ' he
     simp only [Option.some.injEq, Prod.mk.injEq] at hc
     obtain ⟨rfl, rfl⟩ := hc
     cases hbb : b with
     | true =>
       rw [if_pos (hwant hbb)]
       left
       refine stepC_wp hT hs hd hlt (stepC_up hle he) (hφ hbb) fun o2 h2 v w1 hs2 hext => hn o2 h2 v w1 ?_ hext
       refine ⟨hs2.size, hs2.tags, fun s z hl => ?_, hs2.res⟩
       rw [qQ3] at hl
       split at hl
       ·rename_i e; cases hl; exact (show SvOk o2 h2 w1 (.e (.gd b x)) _ from ⟨fun _ => hs2.slot s (.e x) (by rw [qQ3, if_pos e]), fun e => by rw [hbb] at e; cases e⟩)
       ·rename_i hne; exact hs2.slot s z (by rw [qQ3, if_neg hne]; exact hl)
     | false => rw [if_neg (hwant' hbb)]; exact hskip x rfl hbb
    ·cases hc
  ·cases hc
end
end Go.Sy
namespace Go.Sy
variable [Drw]
def qK8 (sl : List (Nat × SV)) : List Nat -> List (Nat × SV)
 | [] => []
 | t :: ts => match lk sl t with
   | some x => (t, x) :: qK8 sl ts
   | none => qK8 sl ts
theorem pickS_lk {sl : List (Nat × SV)} : ∀ {ts : List Nat} {t : Nat} {x : SV}, lk (qK8 sl ts) t = some x -> lk sl t = some x /\ t ∈ ts
 | [], t, x, h => by simp [qK8, lk] at h
 | s :: ts, t, x, h => by
   simp only [qK8] at h
   split at h
   ·rename_i y e
    rw [qQ3] at h
    split at h
    ·rename_i e2; subst e2; cases h; exact ⟨e, .head _⟩
    ·exact ⟨(pickS_lk h).1, .tail _ (pickS_lk h).2⟩
   ·exact ⟨(pickS_lk h).1, .tail _ (pickS_lk h).2⟩
def tmpsO : List Operand -> List Nat
 | [] => []
 | .tmp t :: l => t :: tmpsO l
 | _ :: l => tmpsO l
def qW8 (ops : Array Oper) (o : Oper) : List Nat := appN (match o.guard with
 | some (j, _) => match nth ops.toList j with
   | some x => match x.dst with
     | some d => [d]
     | none => []
   | none => []
 | none => []) (tmpsO o.op.operands.toList)
def drawGo (lay : Lay) (fns : Fns) (ops : Array Oper) : List Oper -> St -> Prop -> Option (St × Prop)
 | [], A, φ => some (A, φ)
 | op :: l, ⟨n, sl, rs⟩, φ => match op.dst with
   | some d => match Nat.blt d n, stepD lay fns ⟨n, qK8 sl (qW8 ops op), rs⟩ ops op with
     | true, some (y, ψ) => drawGo lay fns ops l ⟨n, (d, y) :: sl, rs⟩ (φ /\ ψ)
     | _, _ => none
   | none => none
theorem drawGo_spec {lay : Lay} {fns : Fns} {ops : Array Oper} : ∀ {l : List Oper} {A A' : St} {φ φ' : Prop}, drawGo lay fns ops l A φ = some (A', φ') -> φ' -> φ /\ ∃ prs : List (Nat × SV), prs.length = l.length /\ A' = ⟨A.n, prs.reverse ++ A.sl, A.rs⟩ /\
  ∀ (i : Nat) op, l[i]? = some op -> ∃ d y ψ, prs[i]? = some (d, y) /\ op.dst = some d /\ Nat.blt d A.n = true /\ stepD lay fns ⟨A.n, qK8 ((prs.take i).reverse ++ A.sl) (qW8 ops op), A.rs⟩ ops op = some (y, ψ) /\ ψ
 | [], A, A', φ, φ', h, hφ => by
   simp only [drawGo, Option.some.injEq, Prod.mk.injEq] at h
   obtain ⟨rfl, rfl⟩ := h
   exact ⟨hφ, [], rfl, rfl, by simp⟩
 | op :: l, ⟨n, sl, rs⟩, A', φ, φ', h, hφ => by
   simp only [drawGo] at h
   split at h
   ·rename_i d hd
    split at h
    ·rename_i y ψ hlt hs
     obtain ⟨h1, prs, h2, h3, h4⟩ := drawGo_spec h hφ
     refine ⟨h1.1, (d, y) :: prs, by simp [h2], by simpa using h3, fun i op' hi => ?_⟩
     cases i with
     | zero => simp at hi; subst hi; exact ⟨d, y, ψ, by simp, hd, hlt, by simpa using hs, h1.2⟩
     | succ i =>
       simp at hi
       obtain ⟨d', y', ψ', g1, g2, g3, g4, g5⟩ := h4 i op' hi
       exact ⟨d', y', ψ', by simpa using g1, g2, g3, by simpa using g4, g5⟩
    ·cases h
   ·cases h
def anyE : List Edge -> Nat -> Bool
 | [], _ => false
 | e :: l, j => (Region.binds .any e && Nat.beq e.on j) || anyE l j
def belowE : List Edge -> Nat -> Bool
 | [], _ => true
 | e :: l, i => (!Region.binds .any e || Nat.blt e.on i) && belowE l i
def depPair (ops : Array Oper) (i : Nat) (oi : Oper) (j : Nat) (oj : Oper) : Bool :=
 match oj.dst with
 | some d => (Nat.beq i j || (match oi.dst with | some d' => !Nat.beq d' d | none => true)) && (!memN d (qW8 ops oi) || ((Nat.blt j i && anyE oi.after.toList j) || (Nat.blt i j && anyE oj.after.toList i)))
 | none => true
def depRow (ops : Array Oper) (i : Nat) (oi : Oper) : Nat -> List Oper -> Bool
 | _, [] => true
 | j, oj :: l => depPair ops i oi j oj && depRow ops i oi (j + 1) l
def depAll (ops : Array Oper) : Nat -> List Oper -> Bool
 | _, [] => true
 | i, oi :: l => belowE oi.after.toList i && (depRow ops i oi 0 ops.toList && depAll ops (i + 1) l)
def depOk (ops : Array Oper) : Bool := depAll ops 0 ops.toList
theorem anyE_ok : ∀ {l : List Edge} {j : Nat}, anyE l j = true -> ∃ e ∈ l, Region.binds .any e = true /\ e.on = j
 | [], j, h => by cases h
 | e :: l, j, h => by
   simp only [anyE, Bool.or_eq_true, Bool.and_eq_true] at h
   rcases h with ⟨h1, h2⟩ | h
   ·exact ⟨e, .head _, h1, Nat.eq_of_beq_eq_true h2⟩
   ·obtain ⟨e', h1, h2⟩ := anyE_ok h; exact ⟨e', .tail _ h1, h2⟩
theorem belowE_ok : ∀ {l : List Edge} {i : Nat}, belowE l i = true -> ∀ e ∈ l, Region.binds .any e = true -> e.on < i
 | [], i, h, e, he, _ => by cases he
 | e' :: l, i, h, e, he, hb => by
   simp only [belowE, Bool.and_eq_true, Bool.or_eq_true] at h
   rcases List.mem_cons.1 he with rfl | he
   ·rcases h.1 with h1 | h1
    ·simp [hb] at h1
    ·simpa [Nat.blt, Nat.succ_le_iff] using h1
   ·exact belowE_ok h.2 e he hb
theorem depRow_ok {ops : Array Oper} {i : Nat} {oi : Oper} : ∀ {l : List Oper} {k : Nat}, depRow ops i oi k l = true -> ∀ (j : Nat) oj, l[j]? = some oj -> depPair ops i oi (k + j) oj = true
 | [], k, h, j, oj, hj => by simp at hj
 | x :: l, k, h, j, oj, hj => by
   simp only [depRow, Bool.and_eq_true] at h
   cases j with
   | zero => simp at hj; subst hj; exact h.1
   | succ j => simp at hj; have := depRow_ok h.2 j oj hj; rwa [show k + 1 + j = k + (j + 1) by omega] at this
theorem depAll_ok {ops : Array Oper} : ∀ {l : List Oper} {k : Nat}, depAll ops k l = true -> ∀ (i : Nat) oi, l[i]? = some oi -> belowE oi.after.toList (k + i) = true /\ depRow ops (k + i) oi 0 ops.toList = true
 | [], k, h, j, oj, hj => by simp at hj
 | x :: l, k, h, j, oj, hj => by
   simp only [depAll, Bool.and_eq_true] at h
   cases j with
   | zero => simp at hj; subst hj; exact ⟨h.1, h.2.1⟩
   | succ j => simp at hj; have := depAll_ok h.2.2 j oj hj; rwa [show k + 1 + j = k + (j + 1) by omega] at this
structure Dep (ops : Array Oper) : Prop where
 below : ∀ i oi, ops[i]? = some oi -> ∀ e ∈ oi.after, Region.binds .any e = true -> e.on < i
 dist : ∀ (i j : Nat) oi oj d, ops[i]? = some oi -> ops[j]? = some oj -> oi.dst = some d -> oj.dst = some d -> i = j
 look : ∀ (i j : Nat) oi oj d, ops[i]? = some oi -> ops[j]? = some oj -> oj.dst = some d -> d ∈ qW8 ops oi -> (j < i /\ ∃ e ∈ oi.after, Region.binds .any e = true /\ e.on = j) ∨ (i < j /\ ∃ e ∈ oj.after, Region.binds .any e = true /\ e.on = i)
theorem depOk_ok {ops : Array Oper} (h : depOk ops = true) : Dep ops := by
 have hl : ∀ (i : Nat) oi, ops[i]? = some oi -> ops.toList[i]? = some oi := fun i oi h => by simpa using h
 have hp : ∀ (i j : Nat) oi oj, ops[i]? = some oi -> ops[j]? = some oj -> depPair ops i oi j oj = true := fun i j oi oj hi hj => by
  have := depRow_ok (depAll_ok h i oi (hl i oi hi)).2 j oj (hl j oj hj)
  simpa using this
 refine ⟨fun i oi hi e he hb => ?_, fun i j oi oj d hi hj hdi hdj => ?_, fun i j oi oj d hi hj hdj hm => ?_⟩
 ·have := belowE_ok (depAll_ok h i oi (hl i oi hi)).1 e (by simpa using he) hb
  simpa using this
 ·have := hp i j oi oj hi hj
  simp only [depPair, hdj, hdi, Bool.and_eq_true, Bool.or_eq_true] at this
  rcases this.1 with h1 | h1
  ·exact Nat.eq_of_beq_eq_true h1
  ·simp at h1
 ·have := hp i j oi oj hi hj
  simp only [depPair, hdj, Bool.and_eq_true, Bool.or_eq_true] at this
  rcases this.2 with h1 | h1
  ·rw [memN_of hm] at h1; cases h1
  ·rcases h1 with ⟨h1, h2⟩ | ⟨h1, h2⟩
   ·obtain ⟨e, g1, g2⟩ := anyE_ok h2
    exact .inl ⟨by simpa [Nat.blt, Nat.succ_le_iff] using h1, e, by simpa using g1, g2⟩
   ·obtain ⟨e, g1, g2⟩ := anyE_ok h2
    exact .inr ⟨by simpa [Nat.blt, Nat.succ_le_iff] using h1, e, by simpa using g1, g2⟩
theorem qA4 {base : List (Nat × SV)} : ∀ {l : List (Nat × SV)} {t : Nat} {y : SV}, l.Pairwise (fun a b => a.1 ≠ b.1) -> (t, y) ∈ l -> lk (l ++ base) t = some y
 | [], t, y, _, h => by cases h
 | (t', y') :: l, t, y, hp, h => by
   rw [List.cons_append, qQ3]
   rw [List.pairwise_cons] at hp
   rcases List.mem_cons.1 h with e | h
   ·cases e; rw [if_pos rfl]
   ·rw [if_neg (hp.1 _ h)]; exact qA4 hp.2 h
theorem qJ0 {base : List (Nat × SV)} : ∀ {l : List (Nat × SV)} {t : Nat}, (∀ y, (t, y) ∉ l) -> lk (l ++ base) t = lk base t
 | [], t, _ => rfl
 | (t', y') :: l, t, h => by
   rw [List.cons_append, qQ3, if_neg]
   ·exact qJ0 fun y hy => h y (.tail _ hy)
   ·rintro rfl; exact h y' (.head _)
def selL (ls : Nat -> Bool) : Nat -> List (Nat × SV) -> List (Nat × SV)
 | _, [] => []
 | k, x :: l => if ls k then x :: selL ls (k + 1) l else selL ls (k + 1) l
theorem qX3 (ls : Nat -> Bool) : ∀ (k : Nat) (l : List (Nat × SV)), (selL ls k l).Sublist l
 | k, [] => .slnil
 | k, x :: l => by
   simp only [selL]
   split
   ·exact (qX3 ls (k + 1) l).cons_cons x
   ·exact (qX3 ls (k + 1) l).cons x
theorem qZ8 {ls : Nat -> Bool} {x : Nat × SV} : ∀ {k : Nat} {l : List (Nat × SV)}, x ∈ selL ls k l ↔ ∃ j : Nat, l[j]? = some x /\ ls (k + j) = true
 | k, [] => by simp [selL]
 | k, y :: l => by
   have ih := @qZ8 ls x (k + 1) l
   have e : (∃ j : Nat, (y :: l)[j]? = some x /\ ls (k + j) = true) ↔ (y = x /\ ls k = true) ∨ ∃ j : Nat, l[j]? = some x /\ ls (k + 1 + j) = true := by
    constructor
    ·rintro ⟨j, h1, h2⟩
     cases j with
     | zero => simp at h1; exact .inl ⟨h1, h2⟩
     | succ j => simp at h1; exact .inr ⟨j, h1, by rwa [show k + 1 + j = k + (j + 1) by omega]⟩
    ·rintro (⟨rfl, h⟩ | ⟨j, h1, h2⟩)
     ·exact ⟨0, by simp, h⟩
     ·exact ⟨j + 1, by simpa using h1, by rwa [show k + (j + 1) = k + 1 + j by omega]⟩
   rw [e, <-ih]
   simp only [selL]
   split
   ·rename_i hk; simp [hk, eq_comm]
   ·rename_i hk; simp [hk]
def cntU (ls : Nat -> Bool) : Nat -> Nat
 | 0 => 0
 | n + 1 => (if ls n then 0 else 1) + cntU ls n
theorem cntU_congr {ls ls' : Nat -> Bool} : ∀ {n : Nat}, (∀ j, j < n -> ls j = ls' j) -> cntU ls n = cntU ls' n
 | 0, _ => rfl
 | n + 1, h => by simp only [cntU]; rw [h n (by omega), cntU_congr fun j hj => h j (by omega)]
theorem cntU_upd {ls ls' : Nat -> Bool} {i : Nat} : ∀ {n : Nat}, i < n -> ls i = false -> ls' i = true -> (∀ j, j ≠ i -> ls' j = ls j) -> cntU ls' n + 1 = cntU ls n
 | 0, h, _, _, _ => by omega
 | n + 1, h, h1, h2, h3 => by
   simp only [cntU]
   by_cases hn : i = n
   ·subst hn
    rw [h1, h2, cntU_congr (ls := ls') (ls' := ls) fun j hj => h3 j (by omega)]
    simp; omega
   ·rw [h3 n (Ne.symm hn)]
    have := cntU_upd (n := n) (by omega) h1 h2 h3
    omega
theorem cntU_zero {ls : Nat -> Bool} : ∀ {n : Nat}, cntU ls n = 0 -> ∀ j, j < n -> ls j = true
 | 0, _, j, hj => by omega
 | n + 1, h, j, hj => by
   simp only [cntU] at h
   by_cases hn : j = n
   ·subst hn
    cases hl : ls j with
    | true => rfl
    | false => simp [hl] at h
   ·exact cntU_zero (n := n) (by omega) j (by omega)
section
variable {P : Program} {lay : Lay} {A A' : St} {Q : Exit -> St -> Prop} {fns : Fns}
theorem KW.drawn (hl : qJ1 P lay) (hT : FnsOk P fns) (hm : P.follows .mixedOrders = true) {id : Nat} {ops : Array Oper} {k : List K} {φ : Prop} (hdep : depOk ops = true) (hg : drawGo lay fns ops ops.toList A True = some (A', φ)) (hφ : φ)
  (hn : KW P k .normal A' Q) : KW P (.code (.region id ops true) :: k) .normal A Q := by
 obtain ⟨_, prs, hlen, hA', hprs⟩ := drawGo_spec hg hφ
 have dep := depOk_ok hdep
 have hlen' : prs.length = ops.size := by simpa using hlen
 have hop : ∀ (i : Nat) op, ops[i]? = some op -> ∃ d y ψ, prs[i]? = some (d, y) /\ op.dst = some d /\ Nat.blt d A.n = true /\ stepD lay fns ⟨A.n, qK8 ((prs.take i).reverse ++ A.sl) (qW8 ops op), A.rs⟩ ops op = some (y, ψ) /\ ψ :=
  fun i op hi => hprs i op (by simpa using hi)
 have hinv : ∀ (j : Nat) d y, prs[j]? = some (d, y) -> ∃ op, ops[j]? = some op /\ op.dst = some d := fun j d y hj => by
  have hlt : j < ops.size := by rw [<-hlen']; exact (List.getElem?_eq_some_iff.1 hj).1
  obtain ⟨d', y', ψ, g1, g2, _⟩ := hop j ops[j] (Array.getElem?_eq_getElem hlt)
  rw [hj] at g1
  cases g1
  exact ⟨_, Array.getElem?_eq_getElem hlt, g2⟩
 have hpw : prs.Pairwise (fun a b => a.1 ≠ b.1) := by
  rw [List.pairwise_iff_getElem]
  intro i j hi hj hij e
  obtain ⟨oi, h1, h2⟩ := hinv i prs[i].1 prs[i].2 (List.getElem?_eq_getElem hi)
  obtain ⟨oj, h3, h4⟩ := hinv j prs[j].1 prs[j].2 (List.getElem?_eq_getElem hj)
  have := dep.dist i j oi oj _ h1 h3 h2 (by rw [h4, e])
  omega
 intro o h tm w hs
 show (Code.region id ops true).wp P (kq P (lift Q o w) k) ⟨tm, []⟩ w
 refine wp_region_any hm ?_
 have main : ∀ (fuel : Nat) (listed : Array Bool) (o' : Nat -> Tag) (h' : Nat -> Value) (tm' : Array Value) (w' : World), listed.size = ops.size -> cntU (fun j => listed.getD j false) ops.size ≤ fuel ->
   (∀ (i : Nat) oi, ops[i]? = some oi -> listed.getD i false = true -> ∀ e ∈ oi.after, Region.binds .any e = true -> listed.getD e.on false = true) ->
   Sat o' h' ⟨A.n, selL (fun j => listed.getD j false) 0 prs ++ A.sl, A.rs⟩ tm' w' -> Ext o w o' w' -> wpAny P .any ops (kq P (lift Q o w) k) fuel listed ⟨tm', []⟩ w' := by
  intro fuel
  -- all have come up
  have full : ∀ (listed : Array Bool) (o' : Nat -> Tag) (h' : Nat -> Value) (tm' : Array Value) (w' : World), (∀ j, j < ops.size -> listed.getD j false = true) ->
    Sat o' h' ⟨A.n, selL (fun j => listed.getD j false) 0 prs ++ A.sl, A.rs⟩ tm' w' -> Ext o w o' w' -> kq P (lift Q o w) k .normal ⟨tm', []⟩ w' := by
   intro listed o' h' tm' w' hall hs' hx
   refine qB7 (qW2 hx) k .normal _ w' (hn o' h' tm' w' ?_)
   subst hA'
   refine ⟨hs'.size, hs'.tags, fun t x hl => hs'.slot t x ?_, hs'.res⟩
   simp only at hl ⊢
   by_cases hex : ∃ y, (t, y) ∈ prs
   ·obtain ⟨y, hy⟩ := hex
    have e1 := qA4 (base := A.sl) (l := prs.reverse) (List.pairwise_reverse.2 (hpw.imp fun h => Ne.symm h)) (List.mem_reverse.2 hy)
    rw [e1] at hl
    cases hl
    obtain ⟨j, hj⟩ := List.mem_iff_getElem?.1 hy
    refine qA4 (hpw.sublist (qX3 _ _ _)) (qZ8.2 ⟨j, hj, ?_⟩)
    have : j < ops.size := by rw [<-hlen']; exact (List.getElem?_eq_some_iff.1 hj).1
    simpa using hall j this
   ·have hno : ∀ y, (t, y) ∉ prs := fun y hy => hex ⟨y, hy⟩
    rw [qJ0 fun y hy => hno y (List.mem_reverse.1 hy)] at hl
    rw [qJ0 fun y hy => hno y ((qX3 _ _ _).subset hy)]
    exact hl
  have done : ∀ (listed : Array Bool), listed.size = ops.size -> Region.ready .any ops listed = [] -> ∀ j, j < ops.size -> listed.getD j false = true := by
   intro listed hsz hr j
   induction j using Nat.strongRecOn with
   | ind j ih =>
     intro hj
     cases hlj : listed.getD j false with
     | true => rfl
     | false =>
       exfalso
       have : j ∈ Region.ready .any ops listed := by
        rw [mem_ready]
        refine ⟨?_, ops[j], Array.getElem?_eq_getElem hj, fun e he hb => ?_⟩
        ·rw [Array.getD_eq_getD_getElem?] at hlj ⊢
         rw [Array.getElem?_eq_getElem (by omega)] at hlj ⊢
         exact hlj
        ·have hlt := dep.below j ops[j] (Array.getElem?_eq_getElem hj) e he hb
         exact ih e.on hlt (by omega)
       rw [hr] at this
       cases this
  induction fuel with
  | zero =>
    intro listed o' h' tm' w' hsz hc hcl hs' hx
    have hall := cntU_zero (Nat.le_zero.1 hc)
    refine ⟨?_, full listed o' h' tm' w' hall hs' hx⟩
    cases hr : Region.ready .any ops listed with
    | nil => rfl
    | cons j l =>
      exfalso
      have hj : j ∈ Region.ready .any ops listed := by rw [hr]; exact .head _
      obtain ⟨h1, oj, h2, _⟩ := mem_ready.1 hj
      have hlt : j < ops.size := (Array.getElem?_eq_some_iff.1 h2).1
      have := hall j hlt
      rw [Array.getD_eq_getD_getElem?, Array.getElem?_eq_getElem (by omega)] at this h1
      simp at this h1
      rw [h1] at this
      cases this
  | succ fuel ih =>
    intro listed o' h' tm' w' hsz hc hcl hs' hx
    refine ⟨fun hr => full listed o' h' tm' w' (done listed hsz hr) hs' hx, fun i hi => ?_⟩
    obtain ⟨hun, op, hop', haft⟩ := mem_ready.1 hi
    have hlt : i < ops.size := (Array.getElem?_eq_some_iff.1 hop').1
    have hun' : listed.getD i false = false := by
     rw [Array.getD_eq_getD_getElem?, Array.getElem?_eq_getElem (by omega)] at hun ⊢
     exact hun
    obtain ⟨d, y, ψ, g1, g2, g3, g4, g5⟩ := hop i op hop'
    have hle : St.le ⟨A.n, qK8 ((prs.take i).reverse ++ A.sl) (qW8 ops op), A.rs⟩ ⟨A.n, selL (fun j => listed.getD j false) 0 prs ++ A.sl, A.rs⟩ := by
     refine ⟨rfl, rfl, fun t x hl => ?_⟩
     obtain ⟨e1, hm⟩ := pickS_lk hl
     simp only at e1 ⊢
     by_cases hex : ∃ (j : Nat) (y' : SV), prs[j]? = some (t, y')
     ·obtain ⟨j, y', hj⟩ := hex
      obtain ⟨oj, hoj, hdj⟩ := hinv j t y' hj
      have huniq : ∀ (j' : Nat) y'', prs[j']? = some (t, y'') -> j' = j := fun j' y'' hj' => by
       obtain ⟨oj', hoj', hdj'⟩ := hinv j' t y'' hj'
       exact dep.dist j' j oj' oj t hoj' hoj hdj' hdj
      rcases dep.look i j op oj t hop' hoj hdj hm with ⟨hji, e, he, hb, heq⟩ | ⟨hij, e, he, hb, heq⟩
      ·have hlj : listed.getD j false = true := by rw [<-heq]; exact haft e he hb
       rw [qA4 (List.pairwise_reverse.2 ((hpw.sublist (List.take_sublist i prs)).imp fun h => Ne.symm h)) (List.mem_reverse.2 (List.mem_of_getElem? (i := j) (by rw [List.getElem?_take, if_pos hji]; exact hj)))] at e1
       cases e1
       exact qA4 (hpw.sublist (qX3 _ _ _)) (qZ8.2 ⟨j, hj, by simpa using hlj⟩)
      ·have hlj : listed.getD j false = false := by
        cases hlj : listed.getD j false with
        | false => rfl
        | true =>
          have := hcl j oj hoj hlj e he hb
          rw [heq, hun'] at this
          cases this
       rw [qJ0 fun y'' hy => ?_] at e1
       ·rw [qJ0 fun y'' hy => ?_]
        ·exact e1
        ·obtain ⟨j', hj', hl'⟩ := qZ8.1 hy
         rw [huniq j' y'' hj'] at hl'
         simp [hlj] at hl'
       ·obtain ⟨j', hj'⟩ := List.mem_iff_getElem?.1 (List.mem_reverse.1 hy)
        rw [List.getElem?_take] at hj'
        split at hj'
        ·have := huniq j' y'' hj'; omega
        ·cases hj'
     ·have hno : ∀ y, (t, y) ∉ prs := fun y hy => by
       obtain ⟨j, hj⟩ := List.mem_iff_getElem?.1 hy
       exact hex ⟨j, y, hj⟩
      rw [qJ0 fun y hy => hno y (List.mem_of_mem_take (List.mem_reverse.1 hy))] at e1
      rw [qJ0 fun y hy => hno y ((qX3 _ _ _).subset hy)]
      exact e1
    refine stepD_wp hl hT hop' hle hs' g2 g3 g4 g5 fun o2 h2 v w1 hs2 hext => ?_
    have hget : ∀ j, (listed.setIfInBounds i true).getD j false = if j = i then true else listed.getD j false := fun j => by
     by_cases hji : j = i
     ·subst hji
      rw [if_pos rfl, Array.getD_eq_getD_getElem?, Array.getElem?_setIfInBounds_self]
      simp [hsz, hlt]
     ·rw [if_neg hji, getD_set_ne false (Ne.symm hji)]
    refine ih (listed.setIfInBounds i true) o2 h2 _ w1 (by simp [hsz]) ?_ ?_ ⟨hs2.size, hs2.tags, fun t x hlk => hs2.slot t x ?_, hs2.res⟩ (hx.trans hext)
    ·have := cntU_upd (ls := fun j => listed.getD j false) (ls' := fun j => (listed.setIfInBounds i true).getD j false) (i := i) (n := ops.size) hlt hun' (by simp [hget]) fun j hj => by simp [hget, hj]
     omega
    ·intro j oj hoj hlj e he hb
     rw [hget] at hlj ⊢
     by_cases he' : e.on = i
     ·rw [if_pos he']
     ·rw [if_neg he']
      by_cases hji : j = i
      ·subst hji
       rw [hop'] at hoj
       cases hoj
       exact haft e he hb
      ·rw [if_neg hji] at hlj
       exact hcl j oj hoj hlj e he hb
    ·simp only at hlk ⊢
     rw [qQ3]
     by_cases hdt : d = t
     ·subst hdt
      rw [if_pos rfl]
      have := qA4 (base := A.sl) (hpw.sublist (qX3 (fun j => (listed.setIfInBounds i true).getD j false) 0 prs)) (qZ8.2 ⟨i, g1, by simp [hget]⟩)
      rw [this] at hlk
      exact hlk
     ·rw [if_neg hdt]
      by_cases hex : ∃ (j : Nat) (y' : SV), prs[j]? = some (t, y') /\ (listed.setIfInBounds i true).getD j false = true
      ·obtain ⟨j, y', hj, hlj⟩ := hex
       have hji : j ≠ i := by
        rintro rfl
        rw [g1] at hj
        cases hj
        exact hdt rfl
       rw [hget, if_neg hji] at hlj
       have := qA4 (base := A.sl) (hpw.sublist (qX3 (fun j => (listed.setIfInBounds i true).getD j false) 0 prs)) (qZ8.2 ⟨j, hj, by simpa [hget, hji] using hlj⟩)
       rw [this] at hlk
       cases hlk
       exact qA4 (hpw.sublist (qX3 _ _ _)) (qZ8.2 ⟨j, hj, by simpa using hlj⟩)
      ·rw [qJ0 fun y' hy => ?_] at hlk
       ·rw [qJ0 fun y' hy => ?_]
        ·exact hlk
        ·obtain ⟨j, hj, hlj⟩ := qZ8.1 hy
         refine hex ⟨j, y', hj, ?_⟩
         rw [hget]
         split
         ·rfl
         ·simpa using hlj
       ·obtain ⟨j, hj, hlj⟩ := qZ8.1 hy
        exact hex ⟨j, y', hj, by simpa using hlj⟩
 refine main ops.size (Array.replicate ops.size false) o h tm w.drew (by simp) ?_ ?_ ?_ (Ext.drew o w)
 ·have : ∀ n, cntU (fun j => (Array.replicate ops.size false).getD j false) n ≤ n := by
   intro n
   induction n with
   | zero => exact Nat.le_refl _
   | succ n ih => simp only [cntU]; split <;> omega
  exact this _
 ·intro i oi hoi hli
  simp [Array.getD_eq_getD_getElem?, Array.getElem?_replicate] at hli
  split at hli <;> cases hli
 ·have hs' := hs.drew
  refine ⟨hs'.size, hs'.tags, fun t x hlk => hs'.slot t x ?_, hs'.res⟩
  rw [qJ0 fun y hy => ?_] at hlk
  ·exact hlk
  ·obtain ⟨j, hj, hlj⟩ := qZ8.1 hy
   simp [Array.getD_eq_getD_getElem?, Array.getElem?_replicate] at hlj
   split at hlj <;> cases hlj
end
end Go.Sy
namespace Go.Sy
variable [Drw]
def fI (g : Int -> SV) (p : Int -> Prop) : List EV -> Option (SV × Prop)
 | [.c (.lit (.int .i64 a))] => some (g a, p a)
 | _ => none
def f0 (y : SV) (p : Prop) : List EV -> Option (SV × Prop)
 | [] => some (y, p)
 | _ => none
def fU (g : Int -> SV) (p : Int -> Prop) : List EV -> Option (SV × Prop)
 | [.c (.lit (.int .u64 a))] => some (g a, p a)
 | _ => none
def fII (g : Int -> Int -> SV) (p : Int -> Int -> Prop) : List EV -> Option (SV × Prop)
 | [.c (.lit (.int .i64 a)), .c (.lit (.int .i64 b))] => some (g a b, p a b)
 | _ => none
def fV (g : Value -> SV) (p : Value -> Prop) : List EV -> Option (SV × Prop)
 | [.c (.lit v)] => some (g v, p v)
 | _ => none
def fL (g : List Int -> SV) (p : List Int -> Prop) : List EV -> Option (SV × Prop)
 | [.c x] => some (g (unI x), isI x /\ p (unI x))
 | _ => none
def fLL (g : List Int -> List Int -> SV) (p : List Int -> List Int -> Prop) : List EV -> Option (SV × Prop)
 | [.c x, .c y] => some (g (unI x) (unI y), isI x /\ isI y /\ p (unI x) (unI y))
 | _ => none
def unII : CV -> List (List Int)
 | .sl n _ f => (List.range n).map fun e => unI (f e 0)
 | _ => []
def isII (x : CV) : Prop := CVEq x (intss (unII x))
@[simp] theorem qD8 (ls : List (List Int)) : unII (intss ls) = ls := by
  unfold unII intss
  refine List.ext_getElem (by simp) fun j h1 h2 => ?_
  simp [List.getD_eq_getElem?_getD, h2]
@[simp] theorem isII_intss (ls : List (List Int)) : isII (intss ls) := by unfold isII; rw [qD8]; exact CVEq.refl _
def fLs (g : List (List Int) -> SV) (p : List (List Int) -> Prop) : List EV -> Option (SV × Prop)
 | [.c x] => some (g (unII x), isII x /\ p (unII x))
 | _ => none
section
variable {P : Program} {lay : Lay} {A A' : St} {Q : Exit -> St -> Prop} {fns : Fns} {e : Exit} {k k' : List K}
theorem KW.goIf (hl : qJ1 P lay) (hT : FnsOk P fns) (f : Nat) {c : Operand} {x y : Code} {b : Bool} {φ p : Prop} (h : run2 lay fns f k e A True = (.code (.cond c x y) :: k', .normal, A', φ)) (hφ : φ) (hb : litOf A' c = some (.bool b, p)) (hp : p)
  (ht : b = true -> KW P (.code x :: k') .normal A' Q) (hf : b = false -> KW P (.code y :: k') .normal A' Q) : KW P k e A Q :=
 KW.go hl hT f h hφ (KW.test hb hp ht hf)
theorem KW.goD (hl : qJ1 P lay) (hT : FnsOk P fns) (hm : P.follows .mixedOrders = true) (f : Nat) {id : Nat} {ops : Array Oper} {φ ψ : Prop} {A'' : St} (h : run2 lay fns f k e A True = (.code (.region id ops true) :: k', .normal, A', φ)) (hdep : depOk ops = true) (hg : drawGo lay fns ops ops.toList A' True = some (A'', ψ)) (hφ : φ) (hψ : ψ)
  (hn : KW P k' .normal A'' Q) : KW P k e A Q :=
 KW.go hl hT f h hφ (KW.drawn hl hT hm hdep hg hψ hn)
theorem KW.goRet (hl : qJ1 P lay) (hT : FnsOk P fns) (f : Nat) {φ : Prop} (h : run2 lay fns f k e A True = ([], .ret, A', φ)) {rv : List ResultVar} {y y0 : SV} {rs' : List (Nat × Res)} (h1 : retB A' rv = some y0) (h3 : y0 = y.ren []) (hφ : φ) (h4 : subR [] A' rs') : KW P k e A (RetQ rv y rs') :=
 KW.go hl hT f h hφ (KW.fin [] h1 rfl h3 h4)
theorem KW.goTo {σ : Type} {I : σ -> St} {R : σ -> Prop} {k0 : List K} (hl : qJ1 P lay) (hT : FnsOk P fns) (f : Nat) {φ : Prop} (h : run2 lay fns f k e A True = ([], .normal, A', φ)) (s : σ) (hn : (I s).n = A'.n) (hS : subS [] A' (I s).sl) (hφ : φ) (hR : R s) (hr : subR [] A' (I s).rs) : KW P k e A (ToQ P k0 Q I R) :=
 KW.go hl hT f h hφ (KW.to s hR [] ⟨rfl, hn, hS, hr⟩)
theorem KW.goToR {σ : Type} {I : σ -> St} {R : σ -> Prop} {k0 : List K} (hl : qJ1 P lay) (hT : FnsOk P fns) (f : Nat) {φ : Prop} (h : run2 lay fns f k e A True = ([], .normal, A', φ)) (s : σ) (ρ : List (Nat × Nat)) (h1 : oneB ρ = true) (hn : (I s).n = A'.n) (hS : subS ρ A' (I s).sl) (hφ : φ) (hR : R s) (hr : subR ρ A' (I s).rs) : KW P k e A (ToQ P k0 Q I R) :=
 KW.go hl hT f h hφ (KW.to s hR ρ ⟨h1, hn, hS, hr⟩)
theorem KW.goOut {σ : Type} {I : σ -> St} {R : σ -> Prop} {k0 : List K} (hl : qJ1 P lay) (hT : FnsOk P fns) (f : Nat) {φ : Prop} {id : Nat} (h : run2 lay fns f k e A True = ([], .exit id, A', φ)) (hφ : φ) (hk : KW P k0 (.exit id) A' Q) : KW P k e A (ToQ P k0 Q I R) :=
 KW.go hl hT f h hφ (KW.outX hk)
theorem KW.goOutR {σ : Type} {I : σ -> St} {R : σ -> Prop} {k0 : List K} (hl : qJ1 P lay) (hT : FnsOk P fns) (f : Nat) {φ : Prop} (h : run2 lay fns f k e A True = ([], .ret, A', φ)) (hφ : φ) (hk : KW P k0 .ret A' Q) : KW P k e A (ToQ P k0 Q I R) :=
 KW.go hl hT f h hφ (KW.outR hk)
theorem KW.goRetO (hl : qJ1 P lay) (hT : FnsOk P fns) (f : Nat) {φ : Prop} (h : run2 lay fns f k e A True = ([], .ret, A', φ)) (i s : Nat) {E : Nat} {x z : CV} (hr : lk A'.rs i = some (.own E x)) (hx : isSl x = true) (hs : lk A'.sl s = some (.e (.r i)))
  (hz : x = z) (hφ : φ) : KW P k e A (RetQ [.tmp s] (.e (.c z)) []) := by
 subst hz
 obtain ⟨n, k0, g, e⟩ := isSl_ok hx
 refine KW.go hl hT f h hφ (KW.frz i [s] hr e (by simp [allR, hs]) (KW.fin (y0 := .e (.c x)) [] ?_ rfl rfl trivial))
 simp [retB, pushC, qQ3]
theorem KW.goLp {σ : Type} (hl : qJ1 P lay) (hT : FnsOk P fns) (f : Nat) {φ : Prop} {c : Code} (h : run2 lay fns f k e A True = (.code (.loop c) :: k', .normal, A', φ)) (I : σ -> St) (R : σ -> Prop) (m : σ -> Nat) (s : σ) (hn : (I s).n = A'.n) (hS : subS [] A' (I s).sl) (hφ : φ) (hR : R s) (hr : subR [] A' (I s).rs)
  (round : ∀ s, R s -> KW P [.code c] .normal (I s) (ToQ P k' Q I fun s' => R s' /\ m s' < m s)) : KW P k e A Q :=
 KW.go hl hT f h hφ (KW.lp I R m s hR [] ⟨rfl, hn, hS, hr⟩ round)
end
theorem catV_ints (a b : List Int) : catV (qZ5 a) (qZ5 b) = qZ5 (a ++ b) := by
 simp only [catV, qZ5, List.length_append]
 congr 1
 funext e q
 by_cases h : e < a.length
 ·have : Nat.blt e a.length = true := by simpa [Nat.blt, Nat.succ_le_iff] using h
  simp [this, List.getD_eq_getElem?_getD, List.getElem?_append_left h, h]
 ·have : Nat.blt e a.length = false := by
   cases hb : Nat.blt e a.length with
   | false => rfl
   | true => exact absurd (by simpa [Nat.blt, Nat.succ_le_iff] using hb) h
  simp [this, List.getD_eq_getElem?_getD, List.getElem?_append_right (Nat.le_of_not_lt h)]
theorem qC3 (E : Nat) {a b c : List Int} (h : a ++ b = c) : some (Res.own E (catV (qZ5 a) (qZ5 b))) = some (Res.own E (qZ5 c)) := by rw [catV_ints, h]
theorem qA3 (E : Nat) {b c : List Int} (h : b = c) : some (Res.own E (qZ5 b)) = some (Res.own E (qZ5 c)) := by rw [h]
@[simp] theorem fill1 (z x : CV) : setsN (repZ [z] 1) 0 [x] = [x] := rfl
@[simp] theorem fill2 (z x y : CV) : setsN (setsN (repZ [z] 2) 0 [x]) 1 [y] = [x, y] := rfl
@[simp] theorem fill3 (z x y u : CV) : setsN (setsN (setsN (repZ [z] 3) 0 [x]) 1 [y]) 2 [u] = [x, y, u] := rfl
@[simp] theorem unII_rows1 (x : CV) : unII (rowsC 1 1 [x]) = [unI x] := rfl
@[simp] theorem unII_rows2 (x y : CV) : unII (rowsC 1 2 [x, y]) = [unI x, unI y] := rfl
@[simp] theorem unII_rows3 (x y z : CV) : unII (rowsC 1 3 [x, y, z]) = [unI x, unI y, unI z] := rfl
theorem isII_rows1 {x : CV} (h : isI x) : isII (rowsC 1 1 [x]) := by
 refine ⟨rfl, .inr ⟨rfl, fun e q he hq => ?_⟩⟩
 have : e = 0 := by omega
 have : q = 0 := by omega
 subst_vars; exact h
theorem isII_rows2 {x y : CV} (h : isI x) (h' : isI y) : isII (rowsC 1 2 [x, y]) := by
 refine ⟨rfl, .inr ⟨rfl, fun e q he hq => ?_⟩⟩
 have : q = 0 := by omega
 rcases (by omega : e = 0 ∨ e = 1) with rfl | rfl
 ·subst_vars; exact h
 ·subst_vars; exact h'
theorem isII_rows3 {x y z : CV} (h : isI x) (h' : isI y) (h'' : isI z) : isII (rowsC 1 3 [x, y, z]) := by
 refine ⟨rfl, .inr ⟨rfl, fun e q he hq => ?_⟩⟩
 have : q = 0 := by omega
 rcases (by omega : e = 0 ∨ e = 1 ∨ e = 2) with rfl | rfl | rfl
 ·subst_vars; exact h
 ·subst_vars; exact h'
 ·subst_vars; exact h''
@[simp] theorem isII_r1 (a : List Int) : isII (rowsC 1 1 [qZ5 a]) := isII_rows1 (qQ8 a)
@[simp] theorem isII_r2 (a b : List Int) : isII (rowsC 1 2 [qZ5 a, qZ5 b]) := isII_rows2 (qQ8 a) (qQ8 b)
@[simp] theorem isII_r3 (a b c : List Int) : isII (rowsC 1 3 [qZ5 a, qZ5 b, qZ5 c]) := isII_rows3 (qQ8 a) (qQ8 b) (qQ8 c)
def numV : Value -> Int
 | .iface _ (.int _ n) => n
 | _ => 0
@[simp] theorem numV_errV (T : Nat) (n : Int) : numV (errV T n) = n := by unfold errV; split <;> simp_all [numV]
def isErr (T : Nat) (v : Value) : Prop := v = errV T (numV v)
@[simp] theorem isErr_errV (T : Nat) (n : Int) : isErr T (errV T n) := by unfold isErr; simp
@[simp] theorem isErr_nil (T : Nat) : isErr T .nilIface := rfl
@[simp] theorem numV_nil : numV .nilIface = 0 := rfl
@[simp] theorem numV_iface (T : Nat) (n : Int) : numV (.iface T (.int .i64 n)) = n := rfl
def fVI (g : Value -> Int -> SV) (p : Value -> Int -> Prop) : List EV -> Option (SV × Prop)
 | [.c (.lit v), .c (.lit (.int .i64 a))] => some (g v a, p v a)
 | _ => none
section
variable {P : Program} {f : FuncId}
theorem fVI_ok {g : Value -> Int -> SV} {p : Value -> Int -> Prop} (h : ∀ v a, p v a -> DoesF P f [.c (.lit v), iV a] [] (g v a) []) : ∀ ys y φ, fVI g p ys = some (y, φ) -> φ -> DoesF P f ys [] y [] := by
 intro ys y φ he hφ
 unfold fVI at he
 split at he
 ·simp only [Option.some.injEq, Prod.mk.injEq] at he
  obtain ⟨rfl, rfl⟩ := he
  exact h _ _ hφ
 ·cases he
theorem fI_ok {g : Int -> SV} {p : Int -> Prop} (h : ∀ a, p a -> DoesF P f [iV a] [] (g a) []) : ∀ ys y φ, fI g p ys = some (y, φ) -> φ -> DoesF P f ys [] y [] := by
 intro ys y φ he hφ
 unfold fI at he
 split at he
 ·simp only [Option.some.injEq, Prod.mk.injEq] at he
  obtain ⟨rfl, rfl⟩ := he
  exact h _ hφ
 ·cases he
theorem f0_ok {y : SV} {p : Prop} (h : p -> DoesF P f [] [] y []) : ∀ ys y' φ, f0 y p ys = some (y', φ) -> φ -> DoesF P f ys [] y' [] := by
 intro ys y' φ he hφ
 unfold f0 at he
 split at he
 ·simp only [Option.some.injEq, Prod.mk.injEq] at he
  obtain ⟨rfl, rfl⟩ := he
  exact h hφ
 ·cases he
theorem fU_ok {g : Int -> SV} {p : Int -> Prop} (h : ∀ a, p a -> DoesF P f [.c (.lit (.int .u64 a))] [] (g a) []) : ∀ ys y φ, fU g p ys = some (y, φ) -> φ -> DoesF P f ys [] y [] := by
 intro ys y φ he hφ
 unfold fU at he
 split at he
 ·simp only [Option.some.injEq, Prod.mk.injEq] at he
  obtain ⟨rfl, rfl⟩ := he
  exact h _ hφ
 ·cases he
theorem fII_ok {g : Int -> Int -> SV} {p : Int -> Int -> Prop} (h : ∀ a b, p a b -> DoesF P f [iV a, iV b] [] (g a b) []) : ∀ ys y φ, fII g p ys = some (y, φ) -> φ -> DoesF P f ys [] y [] := by
 intro ys y φ he hφ
 unfold fII at he
 split at he
 ·simp only [Option.some.injEq, Prod.mk.injEq] at he
  obtain ⟨rfl, rfl⟩ := he
  exact h _ _ hφ
 ·cases he
theorem fV_ok {g : Value -> SV} {p : Value -> Prop} (h : ∀ a, p a -> DoesF P f [.c (.lit a)] [] (g a) []) : ∀ ys y φ, fV g p ys = some (y, φ) -> φ -> DoesF P f ys [] y [] := by
 intro ys y φ he hφ
 unfold fV at he
 split at he
 ·simp only [Option.some.injEq, Prod.mk.injEq] at he
  obtain ⟨rfl, rfl⟩ := he
  exact h _ hφ
 ·cases he
theorem fL_ok {g : List Int -> SV} {p : List Int -> Prop} (h : ∀ a, p a -> DoesF P f [.c (qZ5 a)] [] (g a) []) : ∀ ys y φ, fL g p ys = some (y, φ) -> φ -> DoesF P f ys [] y [] := by
 intro ys y φ he hφ
 unfold fL at he
 split at he
 ·simp only [Option.some.injEq, Prod.mk.injEq] at he
  obtain ⟨rfl, rfl⟩ := he
  refine DoesF.conv ?_ (h _ hφ.2)
  exact ⟨hφ.1, trivial⟩
 ·cases he
theorem fLL_ok {g : List Int -> List Int -> SV} {p : List Int -> List Int -> Prop} (h : ∀ a b, p a b -> DoesF P f [.c (qZ5 a), .c (qZ5 b)] [] (g a b) []) : ∀ ys y φ, fLL g p ys = some (y, φ) -> φ -> DoesF P f ys [] y [] := by
 intro ys y φ he hφ
 unfold fLL at he
 split at he
 ·simp only [Option.some.injEq, Prod.mk.injEq] at he
  obtain ⟨rfl, rfl⟩ := he
  refine DoesF.conv ?_ (h _ _ hφ.2.2)
  exact ⟨hφ.1, hφ.2.1, trivial⟩
 ·cases he
theorem fLs_ok {g : List (List Int) -> SV} {p : List (List Int) -> Prop} (h : ∀ a, p a -> DoesF P f [.c (intss a)] [] (g a) []) : ∀ ys y φ, fLs g p ys = some (y, φ) -> φ -> DoesF P f ys [] y [] := by
 intro ys y φ he hφ
 unfold fLs at he
 split at he
 ·simp only [Option.some.injEq, Prod.mk.injEq] at he
  obtain ⟨rfl, rfl⟩ := he
  refine DoesF.conv ?_ (h _ hφ.2)
  exact ⟨hφ.1, trivial⟩
 ·cases he
end
end Go.Sy
end
section
namespace Go.Proofs.YtgoilpfpmbjegaaGreatDoor
open Go.Sy
def lay : Lay := [
 (3, ⟨1, false, .int .i64, [.int .i64 0]⟩),
 (4, ⟨1, false, .bool, [.bool false]⟩),
 (25, ⟨1, false, .sl 3 1 8, [.slice none 0 0]⟩),
 (36, ⟨1, false, .ifc, [.nilIface]⟩),
 (9, ⟨1, false, .str, [.string ⟨#[]⟩]⟩),
 (57, ⟨1, false, .int .i64, [.int .i64 0]⟩),
 (2, ⟨1, false, .int .i64, [.int .i64 0]⟩),
 (5, ⟨1, false, .int .u8, [.int .u8 0]⟩),
 (12, ⟨1, false, .int .u64, [.int .u64 0]⟩),
 (13, ⟨2, true, .st [⟨0, 1, false⟩, ⟨1, 1, false⟩] false, [.string ⟨#[]⟩, .int .u64 0]⟩),
 (20, ⟨1, false, .ifc, [.nilIface]⟩),
 (21, ⟨1, false, .int .i32, [.int .i32 0]⟩),
 (22, ⟨1, false, .sl 65 3 40, [.slice none 0 0]⟩),
 (23, ⟨3, true, .st [⟨0, 1, false⟩, ⟨1, 1, false⟩, ⟨2, 1, false⟩] false, [.int .i64 0, .slice none 0 0, .int .i64 0]⟩),
 (24, ⟨3, true, .st [⟨0, 1, false⟩, ⟨1, 1, false⟩, ⟨2, 1, false⟩] false, [.int .i64 0, .slice none 0 0, .int .i64 0]⟩),
 (26, ⟨2, true, .st [⟨0, 1, false⟩, ⟨1, 1, false⟩] false, [.int .i64 0, .slice none 0 0]⟩),
 (27, ⟨2, true, .st [⟨0, 1, false⟩, ⟨1, 1, false⟩] false, [.int .i64 0, .slice none 0 0]⟩),
 (29, ⟨1, false, .sl 31 3 40, [.slice none 0 0]⟩),
 (30, ⟨3, true, .st [⟨0, 1, false⟩, ⟨1, 1, false⟩, ⟨2, 1, false⟩] false, [.int .i64 0, .slice none 0 0, .int .i64 0]⟩),
 (31, ⟨3, true, .st [⟨0, 1, false⟩, ⟨1, 1, false⟩, ⟨2, 1, false⟩] false, [.int .i64 0, .slice none 0 0, .int .i64 0]⟩),
 (32, ⟨6, true, .st [⟨0, 1, false⟩, ⟨1, 1, false⟩, ⟨2, 1, false⟩, ⟨3, 3, true⟩] false, [.int .i64 0, .int .i64 0, .slice none 0 0, .int .i64 0, .slice none 0 0, .int .i64 0]⟩),
 (33, ⟨6, true, .st [⟨0, 1, false⟩, ⟨1, 1, false⟩, ⟨2, 1, false⟩, ⟨3, 3, true⟩] false, [.int .i64 0, .int .i64 0, .slice none 0 0, .int .i64 0, .slice none 0 0, .int .i64 0]⟩),
 (35, ⟨1, false, .ifc, [.nilIface]⟩),
 (61, ⟨2, true, .arr 2 1 false, [.int .u8 0, .int .u8 0]⟩),
 (64, ⟨3, true, .st [⟨0, 1, false⟩, ⟨1, 1, false⟩, ⟨2, 1, false⟩] false, [.int .i64 0, .int .i64 0, .slice none 0 0]⟩),
 (65, ⟨3, true, .st [⟨0, 1, false⟩, ⟨1, 1, false⟩, ⟨2, 1, false⟩] false, [.int .i64 0, .int .i64 0, .slice none 0 0]⟩),
 (74, ⟨9, true, .st [⟨0, 3, true⟩, ⟨3, 2, true⟩, ⟨5, 1, false⟩, ⟨6, 1, false⟩, ⟨7, 1, false⟩, ⟨8, 1, false⟩] false, [.int .i64 0, .slice none 0 0, .int .i64 0, .int .i64 0, .slice none 0 0, .int .i64 0, .int .i64 0, .bool false, .nilIface]⟩),
 (75, ⟨9, true, .st [⟨0, 3, true⟩, ⟨3, 2, true⟩, ⟨5, 1, false⟩, ⟨6, 1, false⟩, ⟨7, 1, false⟩, ⟨8, 1, false⟩] false, [.int .i64 0, .slice none 0 0, .int .i64 0, .int .i64 0, .slice none 0 0, .int .i64 0, .int .i64 0, .bool false, .nilIface]⟩),
 (87, ⟨1, false, .sl 94 3 24, [.slice none 0 0]⟩),
 (91, ⟨2, true, .st [⟨0, 1, false⟩, ⟨1, 1, false⟩] false, [.int .i64 0, .int .i64 0]⟩),
 (92, ⟨2, true, .st [⟨0, 1, false⟩, ⟨1, 1, false⟩] true, [.int .i64 0, .int .i64 0]⟩),
 (93, ⟨3, true, .st [⟨0, 2, true⟩, ⟨2, 1, false⟩] true, [.int .i64 0, .int .i64 0, .int .i64 0]⟩),
 (94, ⟨3, true, .st [⟨0, 2, true⟩, ⟨2, 1, false⟩] true, [.int .i64 0, .int .i64 0, .int .i64 0]⟩),
 (100, ⟨9, true, .st [⟨0, 2, true⟩, ⟨2, 6, true⟩, ⟨8, 1, false⟩] false, [.int .i64 0, .slice none 0 0, .int .i64 0, .int .i64 0, .slice none 0 0, .int .i64 0, .slice none 0 0, .int .i64 0, .int .i64 0]⟩),
 (101, ⟨9, true, .st [⟨0, 2, true⟩, ⟨2, 6, true⟩, ⟨8, 1, false⟩] false, [.int .i64 0, .slice none 0 0, .int .i64 0, .int .i64 0, .slice none 0 0, .int .i64 0, .slice none 0 0, .int .i64 0, .int .i64 0]⟩),
 (114, ⟨1, false, .sl 5 1 1, [.slice none 0 0]⟩),
 (115, ⟨2, true, .st [⟨0, 1, false⟩, ⟨1, 1, false⟩] false, [.pointer none, .slice none 0 0]⟩),
 (116, ⟨2, true, .st [⟨0, 1, false⟩, ⟨1, 1, false⟩] false, [.pointer none, .slice none 0 0]⟩),
 (130, ⟨1, false, .sl 4 1 1, [.slice none 0 0]⟩),
 (140, ⟨1, false, .int .u64, [.int .u64 0]⟩),
 (141, ⟨2, true, .st [⟨0, 1, false⟩, ⟨1, 1, false⟩] false, [.int .i64 0, .int .i64 0]⟩),
 (142, ⟨2, true, .st [⟨0, 1, false⟩, ⟨1, 1, false⟩] false, [.int .i64 0, .int .i64 0]⟩),
 (148, ⟨1, false, .sl 25 1 24, [.slice none 0 0]⟩),
 (156, ⟨1, false, .int .u32, [.int .u32 0]⟩),
 (158, ⟨1, false, .int .u64, [.int .u64 0]⟩),
 (162, ⟨1, false, .mapIB, [.map none]⟩),
 (168, ⟨32, true, .arr 32 1 false, [.int .u8 0, .int .u8 0, .int .u8 0, .int .u8 0, .int .u8 0, .int .u8 0, .int .u8 0, .int .u8 0, .int .u8 0, .int .u8 0, .int .u8 0, .int .u8 0, .int .u8 0, .int .u8 0, .int .u8 0, .int .u8 0, .int .u8 0, .int .u8 0, .int .u8 0, .int .u8 0, .int .u8 0, .int .u8 0, .int .u8 0, .int .u8 0, .int .u8 0, .int .u8 0, .int .u8 0, .int .u8 0, .int .u8 0, .int .u8 0, .int .u8 0, .int .u8 0]⟩),
 (169, ⟨64, true, .arr 64 1 false, [.int .u8 0, .int .u8 0, .int .u8 0, .int .u8 0, .int .u8 0, .int .u8 0, .int .u8 0, .int .u8 0, .int .u8 0, .int .u8 0, .int .u8 0, .int .u8 0, .int .u8 0, .int .u8 0, .int .u8 0, .int .u8 0, .int .u8 0, .int .u8 0, .int .u8 0, .int .u8 0, .int .u8 0, .int .u8 0, .int .u8 0, .int .u8 0, .int .u8 0, .int .u8 0, .int .u8 0, .int .u8 0, .int .u8 0, .int .u8 0, .int .u8 0, .int .u8 0, .int .u8 0, .int .u8 0, .int .u8 0, .int .u8 0, .int .u8 0, .int .u8 0, .int .u8 0, .int .u8 0, .int .u8 0, .int .u8 0, .int .u8 0, .int .u8 0, .int .u8 0, .int .u8 0, .int .u8 0, .int .u8 0, .int .u8 0, .int .u8 0, .int .u8 0, .int .u8 0, .int .u8 0, .int .u8 0, .int .u8 0, .int .u8 0, .int .u8 0, .int .u8 0, .int .u8 0, .int .u8 0, .int .u8 0, .int .u8 0, .int .u8 0, .int .u8 0]⟩),
 (170, ⟨24, true, .arr 24 1 false, [.int .u8 0, .int .u8 0, .int .u8 0, .int .u8 0, .int .u8 0, .int .u8 0, .int .u8 0, .int .u8 0, .int .u8 0, .int .u8 0, .int .u8 0, .int .u8 0, .int .u8 0, .int .u8 0, .int .u8 0, .int .u8 0, .int .u8 0, .int .u8 0, .int .u8 0, .int .u8 0, .int .u8 0, .int .u8 0, .int .u8 0, .int .u8 0]⟩),
 (177, ⟨20, true, .arr 20 1 false, [.int .u64 0, .int .u64 0, .int .u64 0, .int .u64 0, .int .u64 0, .int .u64 0, .int .u64 0, .int .u64 0, .int .u64 0, .int .u64 0, .int .u64 0, .int .u64 0, .int .u64 0, .int .u64 0, .int .u64 0, .int .u64 0, .int .u64 0, .int .u64 0, .int .u64 0, .int .u64 0]⟩),
 (178, ⟨65, true, .arr 65 1 false, [.int .u8 0, .int .u8 0, .int .u8 0, .int .u8 0, .int .u8 0, .int .u8 0, .int .u8 0, .int .u8 0, .int .u8 0, .int .u8 0, .int .u8 0, .int .u8 0, .int .u8 0, .int .u8 0, .int .u8 0, .int .u8 0, .int .u8 0, .int .u8 0, .int .u8 0, .int .u8 0, .int .u8 0, .int .u8 0, .int .u8 0, .int .u8 0, .int .u8 0, .int .u8 0, .int .u8 0, .int .u8 0, .int .u8 0, .int .u8 0, .int .u8 0, .int .u8 0, .int .u8 0, .int .u8 0, .int .u8 0, .int .u8 0, .int .u8 0, .int .u8 0, .int .u8 0, .int .u8 0, .int .u8 0, .int .u8 0, .int .u8 0, .int .u8 0, .int .u8 0, .int .u8 0, .int .u8 0, .int .u8 0, .int .u8 0, .int .u8 0, .int .u8 0, .int .u8 0, .int .u8 0, .int .u8 0, .int .u8 0, .int .u8 0, .int .u8 0, .int .u8 0, .int .u8 0, .int .u8 0, .int .u8 0, .int .u8 0, .int .u8 0, .int .u8 0, .int .u8 0]⟩),
 (181, ⟨1, false, .int .i64, [.int .i64 0]⟩),
 (188, ⟨1, false, .int .u64, [.int .u64 0]⟩),
 (1, ⟨1, false, .other, [.nilFunc]⟩),
 (28, ⟨1, false, .other, [.nilFunc]⟩),
 (34, ⟨1, false, .other, [.nilFunc]⟩),
 (38, ⟨1, false, .other, [.nilFunc]⟩),
 (40, ⟨1, false, .other, [.nilFunc]⟩),
 (42, ⟨1, false, .other, [.nilFunc]⟩),
 (44, ⟨1, false, .other, [.nilFunc]⟩),
 (45, ⟨1, false, .other, [.nilFunc]⟩),
 (46, ⟨1, false, .other, [.nilFunc]⟩),
 (48, ⟨1, false, .other, [.nilFunc]⟩),
 (50, ⟨1, false, .other, [.nilFunc]⟩),
 (52, ⟨1, false, .other, [.nilFunc]⟩),
 (54, ⟨1, false, .other, [.nilFunc]⟩),
 (55, ⟨1, false, .other, [.nilFunc]⟩),
 (56, ⟨1, false, .other, [.nilFunc]⟩),
 (58, ⟨1, false, .other, [.nilFunc]⟩),
 (59, ⟨1, false, .other, [.nilFunc]⟩),
 (60, ⟨1, false, .other, [.nilFunc]⟩),
 (62, ⟨1, false, .other, [.nilFunc]⟩),
 (63, ⟨1, false, .other, [.nilFunc]⟩),
 (66, ⟨1, false, .other, [.nilFunc]⟩),
 (67, ⟨1, false, .other, [.nilFunc]⟩),
 (69, ⟨1, false, .other, [.nilFunc]⟩),
 (71, ⟨1, false, .other, [.nilFunc]⟩),
 (72, ⟨1, false, .other, [.nilFunc]⟩),
 (73, ⟨1, false, .other, [.nilFunc]⟩),
 (76, ⟨1, false, .other, [.nilFunc]⟩),
 (78, ⟨1, false, .other, [.nilFunc]⟩),
 (79, ⟨1, false, .other, [.nilFunc]⟩),
 (80, ⟨1, false, .other, [.nilFunc]⟩),
 (82, ⟨1, false, .other, [.nilFunc]⟩),
 (83, ⟨1, false, .other, [.nilFunc]⟩),
 (85, ⟨1, false, .other, [.nilFunc]⟩),
 (86, ⟨1, false, .other, [.nilFunc]⟩),
 (89, ⟨1, false, .other, [.nilFunc]⟩),
 (90, ⟨1, false, .other, [.nilFunc]⟩),
 (95, ⟨1, false, .other, [.nilFunc]⟩),
 (96, ⟨1, false, .other, [.nilFunc]⟩),
 (97, ⟨1, false, .other, [.nilFunc]⟩),
 (99, ⟨1, false, .other, [.nilFunc]⟩),
 (103, ⟨1, false, .other, [.nilFunc]⟩),
 (105, ⟨1, false, .other, [.nilFunc]⟩),
 (106, ⟨1, false, .other, [.nilFunc]⟩),
 (107, ⟨1, false, .other, [.nilFunc]⟩),
 (108, ⟨1, false, .other, [.nilFunc]⟩),
 (109, ⟨1, false, .other, [.nilFunc]⟩),
 (110, ⟨1, false, .other, [.nilFunc]⟩),
 (111, ⟨1, false, .other, [.nilFunc]⟩),
 (112, ⟨1, false, .other, [.nilFunc]⟩),
 (113, ⟨1, false, .other, [.pointer none]⟩),
 (117, ⟨1, false, .other, [.nilFunc]⟩),
 (118, ⟨1, false, .other, [.nilFunc]⟩),
 (119, ⟨1, false, .other, [.nilFunc]⟩),
 (120, ⟨1, false, .other, [.pointer none]⟩),
 (121, ⟨1, false, .other, [.nilFunc]⟩),
 (122, ⟨1, false, .other, [.nilFunc]⟩),
 (123, ⟨1, false, .other, [.nilFunc]⟩),
 (124, ⟨1, false, .other, [.nilFunc]⟩),
 (125, ⟨1, false, .other, [.nilFunc]⟩),
 (126, ⟨1, false, .other, [.nilFunc]⟩),
 (127, ⟨1, false, .other, [.nilFunc]⟩),
 (128, ⟨1, false, .other, [.nilFunc]⟩),
 (129, ⟨1, false, .other, [.nilFunc]⟩),
 (131, ⟨1, false, .other, [.nilFunc]⟩),
 (132, ⟨1, false, .other, [.nilFunc]⟩),
 (133, ⟨1, false, .other, [.nilFunc]⟩),
 (134, ⟨1, false, .other, [.nilFunc]⟩),
 (135, ⟨1, false, .other, [.nilFunc]⟩),
 (136, ⟨1, false, .other, [.nilFunc]⟩),
 (137, ⟨1, false, .other, [.nilFunc]⟩),
 (138, ⟨1, false, .other, [.pointer none]⟩),
 (139, ⟨1, false, .other, [.nilFunc]⟩),
 (143, ⟨1, false, .other, [.nilFunc]⟩),
 (144, ⟨1, false, .other, [.nilFunc]⟩),
 (145, ⟨1, false, .other, [.pointer none]⟩),
 (147, ⟨1, false, .other, [.nilFunc]⟩),
 (149, ⟨1, false, .other, [.nilFunc]⟩),
 (150, ⟨1, false, .other, [.nilFunc]⟩),
 (151, ⟨1, false, .other, [.nilFunc]⟩),
 (152, ⟨1, false, .other, [.nilFunc]⟩),
 (153, ⟨1, false, .other, [.nilFunc]⟩),
 (154, ⟨1, false, .other, [.nilFunc]⟩),
 (155, ⟨1, false, .other, [.nilFunc]⟩),
 (157, ⟨1, false, .other, [.nilFunc]⟩),
 (159, ⟨1, false, .other, [.pointer none]⟩),
 (160, ⟨1, false, .other, [.nilFunc]⟩),
 (161, ⟨1, false, .other, [.nilFunc]⟩),
 (163, ⟨1, false, .other, [.nilFunc]⟩),
 (166, ⟨1, false, .other, [.nilFunc]⟩),
 (167, ⟨1, false, .other, [.nilFunc]⟩),
 (171, ⟨1, false, .other, [.nilFunc]⟩),
 (173, ⟨1, false, .other, [.nilFunc]⟩),
 (174, ⟨1, false, .other, [.nilFunc]⟩),
 (175, ⟨1, false, .other, [.nilFunc]⟩),
 (176, ⟨1, false, .other, [.nilFunc]⟩),
 (179, ⟨1, false, .other, [.nilFunc]⟩),
 (180, ⟨1, false, .other, [.nilFunc]⟩),
 (183, ⟨1, false, .other, [.nilFunc]⟩),
 (184, ⟨1, false, .other, [.nilFunc]⟩),
 (185, ⟨1, false, .other, [.nilFunc]⟩),
 (187, ⟨1, false, .other, [.nilFunc]⟩),
 (189, ⟨1, false, .other, [.nilFunc]⟩),
 (190, ⟨1, false, .other, [.nilFunc]⟩),
 (191, ⟨1, false, .other, [.nilFunc]⟩),
 (192, ⟨1, false, .other, [.pointer none]⟩),
 (193, ⟨1, false, .other, [.nilFunc]⟩),
 (194, ⟨1, false, .other, [.pointer none]⟩),
 (195, ⟨1, false, .other, [.nilFunc]⟩),
 (201, ⟨1, false, .other, [.nilFunc]⟩)]
theorem qQ0 : qJ1 Tryz.prog lay := layB_ok (by kernel_rfl)
end Go.Proofs.YtgoilpfpmbjegaaGreatDoor
end
