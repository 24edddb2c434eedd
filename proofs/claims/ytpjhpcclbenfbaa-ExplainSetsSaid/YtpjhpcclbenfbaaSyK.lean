/-
  SYMBOLIC STATES, PART K: append; maps from int to bool used as sets; turns of a state that leave memory alone.
-/
import Derived.Test.YtpjhpcclbenfbaaSyJ
set_option linter.unusedVariables false
set_option linter.unusedSimpArgs false
namespace Go.Sy

section
variable {P : Program} {lay : Lay} {o o' : Nat → Tag} {h h' : Nat → Value} {A A' : St} {tm : Array Value} {w w' : World}

/-- the slice that is appended: its contents -/
def srcOf (A : St) (i : Nat) (x : Operand) : Option (CV × Prop) :=
  match rd A x with
  | some (.c Y, p) => match Y with
    | .sl _ _ _ => some (Y, p)
    | _ => none
  | some (.r j, p) => match lk A.rs j with
    | some (.own _ Y) => match Nat.beq j i with
      | false => some (Y, p)
      | true => none
    | _ => none
  | _ => none

theorem div_mod_lt {j m k : Nat} (hj : j < m * k) : j / k < m ∧ j % k < k ∧ j / k * k + j % k = j := by
  have hk : 0 < k := by
    rcases Nat.eq_zero_or_pos k with rfl | h
    · simp at hj
    · exact h
  exact ⟨Nat.div_lt_of_lt_mul (by rw [Nat.mul_comm]; exact hj), Nat.mod_lt _ hk, by rw [Nat.mul_comm]; exact Nat.div_add_mod j k⟩

theorem srcOf_ok (hs : Sat o h A tm w) {i : Nat} {x : Operand} {Y : CV} {p : Prop} (hx : srcOf A i x = some (Y, p)) (hp : p) {m k : Nat} {g : Nat → Nat → CV} (hY : Y = .sl m k g) :
    ∃ a c, evl tm x = .slice a m c ∧ ((a = none ∧ m = 0) ∨ ∃ (ad : Addr) (news : List Value), a = some ad ∧ news.length = m * k ∧ (∀ (j : Nat) u, news[j]? = some u → w.cell? (ad.add j) = some u) ∧ (∀ u ∈ news, u.oneCell' = true) ∧
      ∀ e q, e < m → q < k → ∃ u, news[e * k + q]? = some u ∧ RepV o w (g e q) u) := by
  subst hY
  unfold srcOf at hx
  split at hx
  · rename_i Y' p' hr
    split at hx
    · simp only [Option.some.injEq, Prod.mk.injEq] at hx
      obtain ⟨e, rfl⟩ := hx
      cases e
      obtain ⟨a, cap, hv, h1, h2, h3⟩ := rd_ok hs hr hp
      refine ⟨a, cap, hv, ?_⟩
      rcases h3 with rfl | ⟨b, off, rfl, hb, hrow⟩
      · cases a with
        | none => exact .inl ⟨rfl, rfl⟩
        | some ad => exact .inr ⟨ad, [], rfl, by simp, by simp, by simp, fun e q he => by omega⟩
      · right
        obtain ⟨us, hl, hu⟩ := choose_list (fun (j : Nat) (u : Value) => w.cell? ⟨b, off + j, none⟩ = some u ∧ RepV o w (g (j / k) (j % k)) u) (m * k) (fun j => j) (fun j hj => by
          obtain ⟨h1, h2, h3⟩ := div_mod_lt hj
          obtain ⟨u, hu, hx⟩ := hrow _ _ h1 h2
          exact ⟨u, by rw [h3] at hu; exact hu, hx⟩)
        refine ⟨⟨b, off, none⟩, us, rfl, hl, fun j u hj => by rw [addr_add]; exact (hu j u hj).1, fun u hm => ?_, fun e q he hq => ?_⟩
        · obtain ⟨j, hj⟩ := List.getElem?_of_mem hm
          exact (hu j u hj).2.one
        · have hlt := one_lt he hq
          have hj : us[e * k + q]? = some us[e * k + q] := List.getElem?_eq_getElem (by omega)
          have := (hu _ _ hj).2
          rw [show (e * k + q) / k = e by rw [Nat.add_comm, Nat.add_mul_div_right _ _ (by omega), Nat.div_eq_of_lt hq, Nat.zero_add],
            show (e * k + q) % k = q by rw [Nat.add_comm, Nat.add_mul_mod_self_right]; exact Nat.mod_eq_of_lt hq] at this
          exact ⟨_, hj, this⟩
    · cases hx
  · rename_i j p' hr
    split at hx
    · rename_i E Y' hl
      split at hx
      · simp only [Option.some.injEq, Prod.mk.injEq] at hx
        obtain ⟨rfl, rfl⟩ := hx
        have hv : evl tm x = h j := rd_ok hs hr hp
        obtain ⟨vs, hown, htag, hvs⟩ := hs.res j _ hl
        rcases hown.2 with ⟨h1, rfl⟩ | ⟨b, cap, cur, h1, h2, h3, h4, h5, h6, h7⟩
        · exact ⟨none, 0, hv.trans h1, .inl ⟨rfl, rfl⟩⟩
        · refine ⟨_, cap, hv.trans h1, .inr ⟨⟨b, 0, none⟩, vs, rfl, hown.1, hown.cells (by rw [h1]; rfl), fun u hm => ?_, hvs⟩⟩
          obtain ⟨q, hq⟩ := List.getElem?_of_mem hm
          have hql : q < m * k := by rw [← hown.1]; exact (List.getElem?_eq_some_iff.1 hq).1
          obtain ⟨d1, d2, d3⟩ := div_mod_lt hql
          obtain ⟨u', hu', hr⟩ := hvs _ _ d1 d2
          rw [d3, hq] at hu'
          cases hu'; exact hr.one
      · cases hx
    · cases hx
  · cases hx

theorem RepV.drew {x : CV} {u : Value} (hx : RepV o w x u) : RepV o w.drew x u := by
  have hk : Keep o w o w.drew := fun b hb => ⟨hb, rfl⟩
  exact RepV.keep hk hx
theorem Sat.drew (hs : Sat o h A tm w) : Sat o h A tm w.drew := by
  have hk : Keep o w o w.drew := fun b hb => ⟨hb, rfl⟩
  exact ⟨hs.size, hs.tags, fun s x hl => (hs.slot s x hl).keep hk, fun i r hl => ResOk.chg hk (fun b hb => ⟨hb, rfl⟩) rfl (fun j hj => absurd rfl hj) (hs.res i r hl)⟩
theorem Ext.drew (o : Nat → Tag) (w : World) : Ext o w o w.drew := ⟨Nat.le_refl _, rfl, rfl, rfl, Nat.le_succ _, fun _ hb _ => ⟨hb, rfl⟩, fun _ hb _ => ⟨hb, rfl⟩⟩

theorem Sat.gone (hs : Sat o h A tm w) (i : Nat) {d : Nat} {r : Res} {sl : List (Nat × SV)} {rs : List (Nat × Res)} (hA : A = ⟨A.n, sl, (d, r) :: rs⟩) : Sat o h ⟨A.n, sl, (d, r) :: (i, .gone) :: rs⟩ tm w := by
  have hsl : A.sl = sl := by rw [hA]
  have hrs : A.rs = (d, r) :: rs := by rw [hA]
  refine ⟨hs.size, hs.tags, fun s x hl => hs.slot s x (by rw [hsl]; exact hl), fun j r' hl => ?_⟩
  rw [lk_cons] at hl
  split at hl
  · rename_i e; exact hs.res j r' (by rw [hrs, lk_cons, if_pos e]; exact hl)
  · rename_i hne
    rw [lk_cons] at hl
    split at hl
    · cases hl; trivial
    · exact hs.res j r' (by rw [hrs, lk_cons, if_neg hne]; exact hl)

def evA (lay : Lay) (A : St) (op : Oper) : Option (St × Prop) :=
  match op.op, op.dst with
  | .call c, some d => match c.callee, c.args.toList, c.argTypes.toList with
    | .builtin .append, [s, x], [t, t'] => match Nat.beq t' t, lk lay t, Nat.blt d A.n, freshB A d with
      | true, some ⟨_, _, .sl E es bytes, _⟩, true, true => match rd A s, lk lay E with
        | some (.r i, p), some _ => match lk A.rs i, srcOf A i x with
          | some (.own E' X), some (Y, q) => match X, Y with
            | .sl n k f, .sl m k' g => match Nat.beq E' E, Nat.beq k es, Nat.beq k' es with
              | true, true, true => some (⟨A.n, (d, .e (.r d)) :: A.sl, (d, .own E (catV X Y)) :: (i, .gone) :: A.rs⟩, p ∧ q ∧ (n + m) * bytes ≤ 140737488355328 ∧ n + m ≤ 140737488355328)
              | _, _, _ => none
            | _, _ => none
          | _, _ => none
        | some (.c (.lit (.slice none 0 0)), p), some _ => match srcOf A d x with
          | some (Y, q) => match Y with
            | .sl m k' g => match Nat.beq k' es with
              | true => some (⟨A.n, (d, .e (.r d)) :: A.sl, (d, .own E Y) :: (d, .gone) :: A.rs⟩, p ∧ q ∧ m * bytes ≤ 140737488355328 ∧ m ≤ 140737488355328)
              | false => none
            | _ => none
          | none => none
        | _, _ => none
      | _, _, _, _ => none
    | _, _, _ => none
  | _, _ => none

/-- what an append comes to: either the same block, or a new one -/
theorem app_run (hl : LayOk P lay) {t sz E es bytes ty : Nat} {ag : Bool} {zz : List Value} (hT : lk lay t = some ⟨sz, ag, .sl E es bytes, zz⟩) {rE : TRow} (hE : lk lay E = some rE) {v : Value} {n m : Nat} {vs : List Value} (hown : w.ownsRow 0 E es v n vs)
    {a : Option Addr} {c : Nat} (C : List Value → Prop) (hsrc : (a = none ∧ m = 0) ∨ ∃ (ad : Addr) (news : List Value), a = some ad ∧ news.length = m * es ∧ (∀ (j : Nat) u, news[j]? = some u → w.cell? (ad.add j) = some u) ∧ (∀ u ∈ news, u.oneCell' = true) ∧ C news) (hb1 : (n + m) * bytes ≤ 140737488355328) (hb2 : n + m ≤ 140737488355328) :
    ((Builtin.append_ #[t, t] ty #[v, .slice a m c]).run P w = .ok v w ∧ m = 0) ∨
    (∃ news : List Value, news.length = m * es ∧ C news ∧
      ((∃ g cap cur, v = .slice (some ⟨g, 0, none⟩) n cap ∧ w.heap[g]? = some (.cells cur E (0, 0)) ∧ n + m ≤ cap ∧ cap ≤ maxLen ∧ cur.size = cap * es ∧ cur.toList.take (n * es) = vs ∧
        (Builtin.append_ #[t, t] ty #[v, .slice a m c]).run P w = .ok (.slice (some ⟨g, 0, none⟩) (n + m) cap) (w.setRow g (cur.toList.take (n * es) ++ news ++ cur.toList.drop (n * es + news.length)).toArray)) ∨
       ∃ cap cur', n + m ≤ cap ∧ cap ≤ maxLen ∧ cur'.size = cap * es ∧ cur'.toList.take ((n + m) * es) = vs ++ news ∧
        (Builtin.append_ #[t, t] ty #[v, .slice a m c]).run P w = .ok (.slice (some ⟨w.heap.size, 0, none⟩) (n + m) cap) (w.drew.alloc (.cells cur' E)))) := by
  obtain ⟨hu, hes, i0, hinfo, hisz, hiby⟩ := sl_elem hl hT
  obtain ⟨iE, z, hiE, hszE, hzE, hzcE, _, _⟩ := (hl _ _ hE).info
  rw [hinfo] at hiE
  cases hiE
  have hzs : z.cells.size = es := by
    have := (hl _ _ hE).len
    rw [← hzcE, Array.length_toList, ← hszE, hisz] at this; exact this
  subst hisz
  subst hiby
  have grown : ∀ (olds news : List Value) (old : Nat), olds.length = n * i0.size → news.length = m * i0.size →
      (olds.toArray ++ news.toArray ++ Builtin.zeroCells z.cells (grownCap w (n + m) old E - (n + m))).size = grownCap w (n + m) old E * i0.size ∧
      (olds.toArray ++ news.toArray ++ Builtin.zeroCells z.cells (grownCap w (n + m) old E - (n + m))).toList.take ((n + m) * i0.size) = olds ++ news := by
    intro olds news old h1 h2
    have hge := grownCap_ge w (n + m) old E
    refine ⟨?_, ?_⟩
    · simp only [Array.size_append, List.size_toArray, size_zeroCells, hzs, h1, h2, ← Nat.add_mul]
      congr 1
      omega
    · have hlen : (olds ++ news).length = (n + m) * i0.size := by rw [List.length_append, h1, h2, Nat.add_mul]
      simp only [Array.toList_append, List.append_assoc]
      rw [← List.append_assoc, ← hlen]
      exact List.take_left
  have hcapm : ∀ old, grownCap w (n + m) old E ≤ maxLen := fun old => grownCap_le_maxLen w (n + m) old E (by simp only [maxLen]; omega)
  rcases hsrc with ⟨rfl, rfl⟩ | ⟨ad, news, rfl, hln, hnews, h1, hC⟩
  · left
    refine ⟨?_, rfl⟩
    rcases hown.2 with ⟨rfl, rfl⟩ | ⟨g, cap, cur, rfl, _, hg, hnc, _⟩
    · simp [Builtin.append_, run_underlying hu, sizeOf, typeInfo, hinfo, Builtin.lenOf, Builtin.firstCells]
    · simp [Builtin.append_, run_underlying hu, sizeOf, typeInfo, hinfo, Builtin.lenOf, Builtin.firstCells, hnc, storeCells]
  · rcases hown.2 with ⟨rfl, rfl⟩ | ⟨g, cap, cur, rfl, hbg, hg, hnc, hcm, hcs, htake⟩
    · have hx : vs = [] := List.eq_nil_of_length_eq_zero (by simpa using hown.1)
      subst hx
      by_cases hm : m = 0
      · subst hm
        left
        refine ⟨?_, rfl⟩
        simp [Builtin.append_, run_underlying hu, sizeOf, typeInfo, hinfo, Builtin.lenOf, Builtin.firstCells, loadCells, loadCellsFrom]
      · right
        refine ⟨news, hln, hC, .inr ?_⟩
        have hr := run_append_nil (P := P) w t ty E i0 z hu hinfo hzE ad m c news hln hnews (by omega) (by omega) (by have hb := hb1; simp only [Nat.zero_add] at hb; omega)
        obtain ⟨g1, g2⟩ := grown [] news 0 (by simp) hln
        have hge := grownCap_ge w (0 + m) 0 E
        simp only [Nat.zero_add, List.nil_append, Array.empty_append] at g1 g2 hge hcapm ⊢
        exact ⟨_, _, hge, hcapm 0, g1, g2, hr⟩
    · right
      refine ⟨news, hln, hC, ?_⟩
      by_cases hroom : n + m ≤ cap
      · left
        have hfit : n * i0.size + news.length ≤ cur.size := by rw [hln, hcs, ← Nat.add_mul]; exact Nat.mul_le_mul_right _ hroom
        exact ⟨g, cap, cur, rfl, hg, hroom, hcm, hcs, htake, run_append_room (P := P) w t ty E i0 hu hinfo g n cap cur hg ad m c news hln hnews h1 hroom hfit⟩
      · right
        have holds : ∀ (j : Nat) u, vs[j]? = some u → w.cell? ((⟨g, 0, none⟩ : Addr).add j) = some u := hown.cells (g := g) rfl
        have hr := run_append_grow (P := P) w t ty E i0 z hu hinfo hzE ⟨g, 0, none⟩ n cap vs hown.1 holds ad m c news hln hnews (by omega) (by omega) (growslice_fits (by omega) hb1)
        obtain ⟨g1, g2⟩ := grown vs news cap hown.1 hln
        exact ⟨_, _, grownCap_ge w (n + m) cap E, hcapm cap, g1, g2, hr⟩

theorem cat_get {X Y : CV} {n m k k' : Nat} {f g : Nat → Nat → CV} (hX : X = .sl n k f) (hY : Y = .sl m k' g) : catV X Y = .sl (n + m) k (fun e q => bif Nat.blt e n then f e q else g (e - n) q) := by
  subst hX; subst hY; rfl

theorem cat_rep {n m k : Nat} {f g : Nat → Nat → CV} {vs news : List Value} (hvl : vs.length = n * k) (hv : ∀ e q, e < n → q < k → ∃ u, vs[e * k + q]? = some u ∧ RepV o w (f e q) u)
    (hn : ∀ e q, e < m → q < k → ∃ u, news[e * k + q]? = some u ∧ RepV o w (g e q) u) (e q : Nat) (he : e < n + m) (hq : q < k) :
    ∃ u, (vs ++ news)[e * k + q]? = some u ∧ RepV o w (bif Nat.blt e n then f e q else g (e - n) q) u := by
  by_cases hlt : e < n
  · have hb : Nat.blt e n = true := by simpa [Nat.blt, Nat.succ_le_iff] using hlt
    obtain ⟨u, hu, hr⟩ := hv e q hlt hq
    rw [hb]
    exact ⟨u, by rw [List.getElem?_append_left (by rw [hvl]; exact one_lt hlt hq)]; exact hu, hr⟩
  · have hb : Nat.blt e n = false := by
      rw [Bool.eq_false_iff]; intro ht; simp [Nat.blt, Nat.succ_le_iff] at ht; omega
    obtain ⟨u, hu, hr⟩ := hn (e - n) q (by omega) hq
    rw [hb]
    refine ⟨u, ?_, hr⟩
    have : n * k ≤ e * k := Nat.mul_le_mul_right k (by omega)
    rw [List.getElem?_append_right (by rw [hvl]; omega), hvl, ← hu, Nat.sub_mul]
    congr 1; omega

/-- the same block, longer: its handle is a new one -/
theorem Sat.inPlace (hs : Sat o h A tm w) {i d : Nat} (hd : d < A.n) (hf : freshB A d = true) {b E cap n k : Nat} {cur' : Array Value} {cur : Array Value} {f : Nat → Nat → CV}
    (hb : w.heap[b]? = some (.cells cur E (0, 0))) (ht : o b = .hd i) (hnc : n ≤ cap) (hcm : cap ≤ maxLen) (hsz : cur'.size = cap * k)
    (hv : ∀ e q, e < n → q < k → ∃ u, cur'[e * k + q]? = some u ∧ RepV o w (f e q) u) :
    ∃ o' h', Sat o' h' ⟨A.n, (d, .e (.r d)) :: A.sl, (d, .own E (.sl n k f)) :: (i, .gone) :: A.rs⟩ (tm.setIfInBounds d (.slice (some ⟨b, 0, none⟩) n cap)) (w.setRow b cur') ∧ Ext o w o' (w.setRow b cur') := by
  have hoth : ∀ b', b' ≠ b → (w.setRow b cur').heap[b']? = w.heap[b']? := fun b' hne => setRow_other w b b' cur' hne
  have hoo : ∀ b', b' ≠ b → updO o b (.hd d) b' = o b' := fun b' hne => by simp [updO, hne]
  have hk : Keep o w (updO o b (.hd d)) (w.setRow b cur') := fun b' hb' => by
    have hne : b' ≠ b := by rintro rfl; rw [ht] at hb'; cases hb'
    exact ⟨(hoo b' hne).trans hb', hoth b' hne⟩
  have hc : Chg o h w (updO o b (.hd d)) (updH h d (.slice (some ⟨b, 0, none⟩) n cap)) (w.setRow b cur') (fun j => j = i) A := by
    refine ⟨hk, fun j b' hj hb' => ?_, fun j hj => ?_⟩
    · have hne : b' ≠ b := by rintro rfl; rw [ht] at hb'; cases hb'; exact hj rfl
      exact ⟨(hoo b' hne).trans hb', hoth b' hne⟩
    · have : j = d := Classical.byContradiction fun hne => hj (by simp [updH, hne])
      subst this; exact hf
  have hblt : b < w.heap.size := (hs.tags b).1 i ht
  refine ⟨updO o b (.hd d), updH h d (.slice (some ⟨b, 0, none⟩) n cap), ⟨by simp [hs.size], fun b' => ?_, fun s x hl => ?_, fun j r hl => ?_⟩, ⟨by simp, rfl, rfl, rfl, Nat.le_refl _, fun b' hb' _ => hk b' hb', fun b' hb' _ => ?_⟩⟩
  · rw [size_setRow]
    by_cases hne : b' = b
    · subst hne; exact ⟨fun _ _ => hblt, fun _ => hblt⟩
    · rw [hoo b' hne]; exact hs.tags b'
  · rw [lk_cons] at hl
    have hsz' := hs.size
    split at hl
    · rename_i e
      subst e
      cases hl
      have : (tm.setIfInBounds d (.slice (some ⟨b, 0, none⟩) n cap)).getD d undef = .slice (some ⟨b, 0, none⟩) n cap := by
        rw [Array.getD_eq_getD_getElem?, Array.getElem?_setIfInBounds_self]; simp [hsz', hd]
      rw [this]; simp [SvOk, EvOk, updH]
    · rename_i hne
      have : (tm.setIfInBounds d (.slice (some ⟨b, 0, none⟩) n cap)).getD s undef = tm.getD s undef := by
        rw [Array.getD_eq_getD_getElem?, Array.getElem?_setIfInBounds_ne hne, ← Array.getD_eq_getD_getElem?]
      rw [this]; exact hc.slot hs s x hl
  · rw [lk_cons] at hl
    split at hl
    · rename_i e
      subst e
      cases hl
      have hle : n * k ≤ cap * k := Nat.mul_le_mul_right k hnc
      refine ⟨cur'.toList.take (n * k), ⟨by rw [List.length_take, Array.length_toList, hsz]; omega, .inr ⟨b, cap, cur', by simp [updH], Nat.zero_le _, setRow_heap w b cur _ E _ hb, hnc, hcm, hsz, rfl⟩⟩, ?_, ?_⟩
      · intro b' hb'
        simp [updH, Value.ownBlock] at hb'
        subst hb'
        simp [updO]
      · intro e q he hq
        obtain ⟨u, hu, hx⟩ := hv e q he hq
        refine ⟨u, ?_, hx.keep hk⟩
        rw [List.getElem?_take, if_pos (one_lt he hq)]
        simpa using hu
    · rename_i hne
      rw [lk_cons] at hl
      split at hl
      · cases hl; trivial
      · rename_i hne2; exact hc.resOk hs j r (fun e => hne2 e.symm) hl
  · have hne : b' ≠ b := by rintro rfl; rw [ht] at hb'; cases hb'
    exact ⟨(hoo b' hne).trans hb', hoth b' hne⟩

def moveO (o : Nat → Tag) (i d : Nat) : Nat → Tag := fun b => match o b with
  | .hd j => if j = i then .hd d else .hd j
  | t => t
theorem moveO_sh {i d b : Nat} (hb : o b = .sh) : moveO o i d b = .sh := by simp [moveO, hb]
theorem moveO_no {i d b : Nat} (hb : o b = .no) : moveO o i d b = .no := by simp [moveO, hb]
theorem moveO_hd {i d b j : Nat} (hj : j ≠ i) (hb : o b = .hd j) : moveO o i d b = .hd j := by simp [moveO, hb, hj]
theorem moveO_self {i d b : Nat} (hb : o b = .hd i) : moveO o i d b = .hd d := by simp [moveO, hb]

/-- a row under a new handle -/
theorem Sat.rename (hs : Sat o h A tm w) {i d E n k : Nat} {f g : Nat → Nat → CV} (hd : d < A.n) (hf : freshB A d = true) (hi : lk A.rs i = some (.own E (.sl n k f))) (hfg : ∀ e q, e < n → q < k → f e q = g e q) :
    ∃ o' h', Sat o' h' ⟨A.n, (d, .e (.r d)) :: A.sl, (d, .own E (.sl n k g)) :: (i, .gone) :: A.rs⟩ (tm.setIfInBounds d (h i)) w ∧ Ext o w o' w := by
  obtain ⟨vs, hown, htag, hvs⟩ := hs.res i _ hi
  have hc : Chg o h w (moveO o i d) (updH h d (h i)) w (fun j => j = i) A := by
    refine ⟨fun b hb => ⟨moveO_sh hb, rfl⟩, fun j b hj hb => ⟨moveO_hd hj hb, rfl⟩, fun j hj => ?_⟩
    have : j = d := Classical.byContradiction fun hne => hj (by simp [updH, hne])
    subst this; exact hf
  refine ⟨moveO o i d, updH h d (h i), ⟨by simp [hs.size], fun b => ?_, fun s x hl => ?_, fun j r hl => ?_⟩, ⟨Nat.le_refl _, rfl, rfl, rfl, Nat.le_refl _, fun b hb _ => ⟨moveO_sh hb, rfl⟩, fun b hb _ => ⟨moveO_no hb, rfl⟩⟩⟩
  · cases hob : o b with
    | no => simp [moveO, hob]
    | sh => have := (hs.tags b).2 hob; simp [moveO, hob, this]
    | hd j' => have := (hs.tags b).1 j' hob; simp only [moveO, hob]; split <;> exact ⟨fun _ _ => this, fun _ => this⟩
  · rw [lk_cons] at hl
    have hsz := hs.size
    split at hl
    · rename_i e
      subst e
      cases hl
      have : (tm.setIfInBounds d (h i)).getD d undef = h i := by
        rw [Array.getD_eq_getD_getElem?, Array.getElem?_setIfInBounds_self]; simp [hsz, hd]
      rw [this]; simp [SvOk, EvOk, updH]
    · rename_i hne
      have : (tm.setIfInBounds d (h i)).getD s undef = tm.getD s undef := by
        rw [Array.getD_eq_getD_getElem?, Array.getElem?_setIfInBounds_ne hne, ← Array.getD_eq_getD_getElem?]
      rw [this]; exact hc.slot hs s x hl
  · rw [lk_cons] at hl
    split at hl
    · rename_i e
      subst e
      cases hl
      refine ⟨vs, by simpa [updH] using hown, fun b hb => moveO_self (htag b (by simpa [updH] using hb)), fun e q he hq => ?_⟩
      obtain ⟨u, hu, hr⟩ := hvs e q he hq
      exact ⟨u, hu, by rw [← hfg e q he hq]; exact hr.keep hc.keep⟩
    · rename_i hne
      rw [lk_cons] at hl
      split at hl
      · cases hl; trivial
      · rename_i hne2; exact hc.resOk hs j r (fun e => hne2 e.symm) hl

theorem evA_ok (hl : LayOk P lay) {op : Oper} {A' : St} {φ : Prop} (he : evA lay A op = some (A', φ)) (hφ : φ) : OpStep P op A A' := by
  intro o h tm w hs
  unfold evA at he
  split at he
  · rename_i c d ho hd
    split at he
    · rename_i s x t t' hc ha ht
      split at he
      · rename_i sz ag E es bytes zz htt hT hlt hf
        have htt := Nat.eq_of_beq_eq_true htt
        subst htt
        have ha' : c.args = #[s, x] := by cases hcc : c.args; simp_all
        have ht' : c.argTypes = #[t', t'] := by cases hcc : c.argTypes; simp_all
        have hlt : d < A.n := by simpa [Nat.blt, Nat.succ_le_iff] using hlt
        have hex : ∀ {v w'}, (Builtin.append_ #[t', t'] op.type #[evl tm s, evl tm x]).run P w = .ok v w' → (execOp (evl tm) op).run P w = .ok (.value v) w' := fun {v w'} hr => by
          simp only [execOp, ho, resolve, hc, invoke, builtin, ha', ht']
          simp [hr]
        have fin : ∀ {v w'}, (Builtin.append_ #[t', t'] op.type #[evl tm s, evl tm x]).run P w = .ok v w' → (∃ o' h', Sat o' h' A' (tm.setIfInBounds d v) w' ∧ Ext o w o' w') →
            ∃ x v w' o' h', (execOp (evl tm) op).run P w = .ok x w' ∧ (x = .value v ∨ (x = .skip ∧ v = undef)) ∧ Sat o' h' A' ((⟨tm, []⟩ : Act).put op.dst v).tmps w' ∧ Ext o w o' w' := by
          rintro v w' hr ⟨o', h', h1, h2⟩
          exact ⟨_, v, w', o', h', hex hr, .inl rfl, by simpa only [Act.put, hd] using h1, h2⟩
        split at he
        · rename_i i p rE hrs hE
          split at he
          · rename_i E' X Y q hi hsrc
            split at he
            · rename_i n k f m k' g
              split at he
              · rename_i hb1 hb2 hb3
                have hb1 := Nat.eq_of_beq_eq_true hb1
                have hb2 := Nat.eq_of_beq_eq_true hb2
                have hb3 := Nat.eq_of_beq_eq_true hb3
                subst hb1; subst hb2; subst hb3
                simp only [Option.some.injEq, Prod.mk.injEq] at he
                obtain ⟨rfl, rfl⟩ := he
                obtain ⟨hp, hq, hby, hnm⟩ := hφ
                have hsv : evl tm s = h i := rd_ok hs hrs hp
                obtain ⟨a, cc, hxv, hsrc'⟩ := srcOf_ok hs hsrc hq rfl
                obtain ⟨vs, hown, htag, hvs⟩ := hs.res i _ hi
                have hrun := app_run (P := P) (ty := op.type) (c := cc) hl hT hE hown (fun news => ∀ e q, e < m → q < _ → ∃ u, news[e * _ + q]? = some u ∧ RepV o w (g e q) u) hsrc' hby hnm
                rw [hsv, hxv] at fin
                rcases hrun with ⟨hr, rfl⟩ | ⟨news, hln, hC, hcase⟩
                · refine fin hr ?_
                  rw [cat_get rfl rfl]
                  refine Sat.rename hs hlt hf hi fun e q he hq => ?_
                  have hb : Nat.blt e n = true := by simpa [Nat.blt, Nat.succ_le_iff] using he
                  rw [hb]; rfl
                · have hcat := cat_rep hown.1 hvs hC
                  rw [cat_get rfl rfl]
                  rcases hcase with ⟨g', cap, cur, hv, hheap, hroom, hcm, hcs, htake, hr⟩ | ⟨cap, cur', hge, hcm, hcs, htake, hr⟩
                  · refine fin hr ?_
                    refine Sat.inPlace hs hlt hf hheap (htag g' (by rw [hv]; rfl)) hroom hcm ?_ fun e q he hq => ?_
                    · have hle := Nat.mul_le_mul_right k' hroom
                      rw [Nat.add_mul] at hle
                      simp only [List.size_toArray, List.length_append, List.length_take, List.length_drop, Array.length_toList, hcs, hln]
                      omega
                    · obtain ⟨u, hu, hx⟩ := hcat e q he hq
                      refine ⟨u, ?_, hx⟩
                      rw [List.getElem?_toArray, htake]
                      have hlt2 := one_lt he hq
                      rw [List.getElem?_append_left (by rw [List.length_append, hown.1, hln, ← Nat.add_mul]; exact hlt2)]
                      exact hu
                  · refine fin hr ?_
                    obtain ⟨o', h', hs', hx'⟩ := Sat.newRow (hs.drew) hlt hf (E := E') (f := fun e q => bif Nat.blt e n then f e q else g (e - n) q) hge hcm hcs (fun e q he hq => by
                      obtain ⟨u, hu, hx⟩ := hcat e q he hq
                      refine ⟨u, ?_, hx.drew⟩
                      rw [← htake, List.getElem?_take, if_pos (one_lt he hq)] at hu
                      simpa using hu)
                    exact ⟨o', h', hs'.gone i rfl, (Ext.drew o w).trans hx'⟩
              · cases he
            · cases he
          · cases he
        · rename_i p rE hrs hE
          split at he
          · rename_i Y q hsrc
            split at he
            · rename_i m k' g
              split at he
              · rename_i hb3
                have hb3 := Nat.eq_of_beq_eq_true hb3
                subst hb3
                simp only [Option.some.injEq, Prod.mk.injEq] at he
                obtain ⟨rfl, rfl⟩ := he
                obtain ⟨hp, hq, hby, hnm⟩ := hφ
                have hsv : evl tm s = .slice none 0 0 := (rd_ok hs hrs hp).1
                obtain ⟨a, cc, hxv, hsrc'⟩ := srcOf_ok hs hsrc hq rfl
                have hrun := app_run (P := P) (ty := op.type) (c := cc) hl hT hE (World.ownsRow_nil w 0 E k') (fun news => ∀ e q, e < m → q < k' → ∃ u, news[e * k' + q]? = some u ∧ RepV o w (g e q) u) hsrc' (by rw [Nat.zero_add]; exact hby) (by omega)
                rw [hsv, hxv] at fin
                rcases hrun with ⟨hr, rfl⟩ | ⟨news, hln, hC, hcase⟩
                · refine fin hr ?_
                  have hchg : Chg o h w o (updH h d (.slice none 0 0)) w (fun _ => False) A := by
                    refine ⟨fun b hb => ⟨hb, rfl⟩, fun j b _ hb => ⟨hb, rfl⟩, fun j hj => ?_⟩
                    have : j = d := Classical.byContradiction fun hne => hj (by simp [updH, hne])
                    subst this; exact hf
                  refine ⟨o, updH h d (.slice none 0 0), ⟨by simp [hs.size], hs.tags, fun s x hl' => ?_, fun j r hl' => ?_⟩, Ext.refl o w⟩
                  · rw [lk_cons] at hl'
                    have hsz := hs.size
                    split at hl'
                    · rename_i e
                      subst e
                      cases hl'
                      have : (tm.setIfInBounds d (Value.slice none 0 0)).getD d undef = .slice none 0 0 := by
                        rw [Array.getD_eq_getD_getElem?, Array.getElem?_setIfInBounds_self]; simp [hsz, hlt]
                      rw [this]; simp [SvOk, EvOk, updH]
                    · rename_i hne
                      have : (tm.setIfInBounds d (Value.slice none 0 0)).getD s undef = tm.getD s undef := by
                        rw [Array.getD_eq_getD_getElem?, Array.getElem?_setIfInBounds_ne hne, ← Array.getD_eq_getD_getElem?]
                      rw [this]; exact hchg.slot hs s x hl'
                  · rw [lk_cons] at hl'
                    split at hl'
                    · rename_i e
                      subst e
                      cases hl'
                      exact ⟨[], by simpa [updH] using World.ownsRow_nil w 0 E k', fun b hb => by simp [updH, Value.ownBlock] at hb, fun e q he => by omega⟩
                    · rename_i hne
                      rw [lk_cons, if_neg hne] at hl'
                      exact hchg.resOk hs j r (fun e => e) hl'
                · rcases hcase with ⟨g', cap, cur, hv, _⟩ | ⟨cap, cur', hge, hcm, hcs, htake, hr⟩
                  · cases hv
                  · rw [Nat.zero_add] at hge htake hr
                    refine fin hr ?_
                    obtain ⟨o', h', hs', hx'⟩ := Sat.newRow (hs.drew) hlt hf (E := E) (f := g) hge hcm hcs (fun e q he hq => by
                      obtain ⟨u, hu, hx⟩ := hC e q he hq
                      refine ⟨u, ?_, hx.drew⟩
                      rw [List.nil_append] at htake
                      rw [← htake, List.getElem?_take, if_pos (one_lt he hq)] at hu
                      simpa using hu)
                    exact ⟨o', h', hs'.gone d rfl, (Ext.drew o w).trans hx'⟩
              · cases he
            · cases he
          · cases he
        · cases he
      · cases he
    · cases he
  · cases he
end

end Go.Sy
