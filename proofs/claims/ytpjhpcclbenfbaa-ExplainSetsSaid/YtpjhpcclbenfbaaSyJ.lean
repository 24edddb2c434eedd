/-
  SYMBOLIC STATES, PART J: stores, append, maps used as sets.
-/
import Derived.Test.YtpjhpcclbenfbaaSyI
set_option linter.unusedVariables false
set_option linter.unusedSimpArgs false
namespace Go.Sy

def catV : CV → CV → CV
  | .sl n k f, .sl m _ g => .sl (n + m) k (fun e q => bif Nat.blt e n then f e q else g (e - n) q)
  | x, _ => x
def updV : CV → Nat → Nat → List CV → CV
  | .sl n k f, e, q, xs => .sl n k (fun e' q' => bif Nat.beq e' e && (Nat.ble q q' && Nat.blt (q' - q) xs.length) then nthD (.lit undef) xs (q' - q) else f e' q')
  | x, _, _, _ => x
def setsE : List EV → Nat → List EV → List EV
  | l, _, [] => l
  | l, n, x :: xs => setsE (setN l n x) (n + 1) xs

theorem setsE_length : ∀ (xs l : List EV) (n : Nat), (setsE l n xs).length = l.length
  | [], l, n => rfl
  | x :: xs, l, n => by simp [setsE, setsE_length xs, setN_eq]
theorem setsE_get : ∀ (xs l : List EV) (n j : Nat), n + xs.length ≤ l.length → (setsE l n xs)[j]? = if n ≤ j ∧ j < n + xs.length then xs[j - n]? else l[j]?
  | [], l, n, j, _ => by simp [setsE]; intro h1 h2; omega
  | x :: xs, l, n, j, hle => by
    simp only [setsE]
    rw [setsE_get xs (setN l n x) (n + 1) j (by simp [setN_eq] at hle ⊢; omega), setN_eq]
    simp only [List.length_cons] at hle ⊢
    by_cases h1 : n + 1 ≤ j ∧ j < n + 1 + xs.length
    · rw [if_pos h1, if_pos (by omega), show j - n = (j - (n + 1)) + 1 by omega, List.getElem?_cons_succ]
    · rw [if_neg h1, List.getElem?_set]
      by_cases h2 : n = j
      · subst h2
        rw [if_pos rfl, if_pos (by omega), if_pos (by omega)]; simp
      · rw [if_neg h2, if_neg (by omega)]

theorem splice_get (cur us : List Value) (n j : Nat) (hle : n + us.length ≤ cur.length) :
    (cur.take n ++ us ++ cur.drop (n + us.length))[j]? = if n ≤ j ∧ j < n + us.length then us[j - n]? else cur[j]? := by
  have hl : (cur.take n).length = n := by rw [List.length_take]; omega
  rw [List.append_assoc]
  by_cases h1 : j < n
  · rw [List.getElem?_append_left (by omega), List.getElem?_take, if_pos h1, if_neg (by omega)]
  · rw [List.getElem?_append_right (by omega), hl]
    by_cases h2 : j < n + us.length
    · rw [List.getElem?_append_left (by omega), if_pos (by omega)]
    · rw [List.getElem?_append_right (by omega), List.getElem?_drop, if_neg (by omega)]
      congr 1; omega

section
variable {P : Program} {lay : Lay} {o o' : Nat → Tag} {h h' : Nat → Value} {A : St} {tm : Array Value} {w w' : World}

def evS (lay : Lay) (A : St) (op : Oper) : Option (St × Prop) :=
  match op.op, op.dst with
  | .store T a x, none => match lk lay T, rd A a with
    | some r, some (.r i, p) => match lk A.rs i, partE A x with
      | some (.box T' cs bk), some (xs, p') => match Nat.beq xs.length r.size, Nat.ble xs.length cs.length with
        | true, true => some (⟨A.n, A.sl, (i, .box T' (setsE cs 0 xs) bk) :: A.rs⟩, p ∧ p')
        | _, _ => none
      | _, _ => none
    | some r, some (.pt i k e q, p) => match lk A.rs i with
      | some (.box T' cs bk) => match partE A x with
        | some (xs, p') => match Nat.beq xs.length r.size, Nat.ble (e * k + q + xs.length) cs.length with
          | true, true => some (⟨A.n, A.sl, (i, .box T' (setsE cs (e * k + q) xs) bk) :: A.rs⟩, p ∧ p')
          | _, _ => none
        | none => none
      | some (.own E X) => match X, partC A x with
        | .sl n k' f, some (xs, p') => match Nat.beq k k', Nat.beq xs.length r.size, Nat.ble (q + xs.length) k' with
          | true, true, true => some (⟨A.n, A.sl, (i, .own E (updV X e q xs)) :: A.rs⟩, p ∧ p' ∧ e < n)
          | _, _, _ => none
        | _, _ => none
      | _ => none
    | _, _ => none
  | _, _ => none

theorem Sat.setRow (hs : Sat o h A tm w) {i b T : Nat} {cur cur' : Array Value} {r : Res} (hb : w.heap[b]? = some (.cells cur T (0, 0))) (ht : o b = .hd i)
    (hr : Keep o w o (w.setRow b cur') → ResOk o h (w.setRow b cur') i r) : Sat o h ⟨A.n, A.sl, (i, r) :: A.rs⟩ tm (w.setRow b cur') ∧ Ext o w o (w.setRow b cur') := by
  have hoth : ∀ b', b' ≠ b → (w.setRow b cur').heap[b']? = w.heap[b']? := fun b' hne => setRow_other w b b' cur' hne
  have hc : Chg o h w o h (w.setRow b cur') (fun j => j = i) A := by
    refine ⟨fun b' hb' => ⟨hb', hoth b' ?_⟩, fun j b' hj hb' => ⟨hb', hoth b' ?_⟩, fun j hj => absurd rfl hj⟩
    · rintro rfl; rw [ht] at hb'; cases hb'
    · rintro rfl; rw [ht] at hb'; cases hb'; exact hj rfl
  refine ⟨⟨hs.size, fun b' => by rw [size_setRow]; exact hs.tags b', fun s x hl => hc.slot hs s x hl, fun j r' hl => ?_⟩, ⟨by simp, rfl, rfl, rfl, Nat.le_refl _, fun b' hb' _ => ⟨hb', hoth b' ?_⟩, fun b' hb' _ => ⟨hb', hoth b' ?_⟩⟩⟩
  · rw [lk_cons] at hl
    split at hl
    · rename_i e; subst e; cases hl; exact hr hc.keep
    · rename_i hne; exact hc.resOk hs j r' (fun e => hne e.symm) hl
  · rintro rfl; rw [ht] at hb'; cases hb'
  · rintro rfl; rw [ht] at hb'; cases hb'

theorem run_storeAt (hl : LayOk P lay) {T : Nat} {r : TRow} (hT : lk lay T = some r) {b n T' : Nat} {cur : Array Value} (hb : w.heap[b]? = some (.cells cur T' (0, 0))) {v : Value}
    (hsz : v.cells.size = r.size) (hle : n + v.cells.size ≤ cur.size) (hone : ∀ u ∈ v.cells.toList, u.oneCell' = true) :
    (Instr.storeAt T (.pointer (some ⟨b, n, none⟩)) v).run P w = .ok () (w.setRow b (cur.toList.take n ++ v.cells.toList ++ cur.toList.drop (n + v.cells.toList.length)).toArray) := by
  have h1 := lay_size (w := w) hl hT
  have h2 := run_storeCells_at P b n T' v.cells.toList 0 cur w hb (by simpa using hle) hone
  simp only [Nat.add_zero] at h2
  simp only [Instr.storeAt, Instr.sureAddr, Sem.run_bind, Sem.run_pure, Result.andThen_ok, storeVar, h1, hsz, ne_eq, not_true, if_false]
  exact h2

theorem box_store (hs : Sat o h A tm w) {i T' n : Nat} {cs xs : List EV} {v : Value} {bk : Option Nat} (hr : lk A.rs i = some (.box T' cs bk)) (hx : CellsE o h w v.cells xs) (hle : n + xs.length ≤ cs.length) :
    ∃ b cur, h i = .pointer (some ⟨b, 0, none⟩) ∧ w.heap[b]? = some (.cells cur T' (0, 0)) ∧ n + v.cells.size ≤ cur.size ∧ (∀ u ∈ v.cells.toList, u.oneCell' = true) ∧
      (let w' := w.setRow b (cur.toList.take n ++ v.cells.toList ++ cur.toList.drop (n + v.cells.toList.length)).toArray
       Sat o h ⟨A.n, A.sl, (i, .box T' (setsE cs n xs) bk) :: A.rs⟩ tm w' ∧ Ext o w o w') := by
  obtain ⟨b, cur, h0, h1, h2, h3, h4, h5⟩ := hs.res i _ hr
  have hlen : v.cells.toList.length = xs.length := by rw [Array.length_toList]; exact hx.1
  refine ⟨b, cur, h1, h2, by rw [hx.1, h4]; exact hle, fun u hu => ?_, ?_⟩
  · obtain ⟨j, hj⟩ := List.getElem?_of_mem hu
    have hjx : j < xs.length := by rw [← hlen]; exact (List.getElem?_eq_some_iff.1 hj).1
    obtain ⟨u', hu', hone, _⟩ := hx.2 j _ (List.getElem?_eq_getElem hjx)
    have : v.cells[j]? = some u := by simpa using hj
    rw [this] at hu'; cases hu'; exact hone
  · have hcl : cur.toList.length = cs.length := by rw [Array.length_toList]; exact h4
    have hget : ∀ j, (cur.toList.take n ++ v.cells.toList ++ cur.toList.drop (n + v.cells.toList.length))[j]? = if n ≤ j ∧ j < n + xs.length then v.cells.toList[j - n]? else cur.toList[j]? := fun j => by
      rw [splice_get _ _ _ _ (by rw [hlen, hcl]; exact hle), hlen]
    have hln : (cur.toList.take n ++ v.cells.toList ++ cur.toList.drop (n + v.cells.toList.length)).length = cs.length := by
      simp only [List.length_append, List.length_take, List.length_drop, hcl, hlen]; omega
    generalize (cur.toList.take n ++ v.cells.toList ++ cur.toList.drop (n + v.cells.toList.length)) = cur' at hget hln
    refine Sat.setRow hs h2 h3 fun hk => ?_
    refine ⟨b, _, h0, h1, setRow_heap w b cur _ T' _ h2, h3, ?_, fun j x hj => ?_⟩
    · rw [setsE_length]; simpa using hln
    · rw [setsE_get _ _ _ _ hle] at hj
      simp only [List.getElem?_toArray]
      rw [hget]
      split at hj
      · rename_i hc
        rw [if_pos hc]
        obtain ⟨u, hu, hone, he⟩ := hx.2 _ _ hj
        exact ⟨u, by simpa using hu, hone, he.keep hk⟩
      · rename_i hc
        rw [if_neg hc]
        obtain ⟨u, hu, hone, he⟩ := h5 _ _ hj
        exact ⟨u, by simpa using hu, hone, he.keep hk⟩

theorem evS_ok (hl : LayOk P lay) {op : Oper} {A' : St} {φ : Prop} (he : evS lay A op = some (A', φ)) (hφ : φ) : OpStep P op A A' := by
  intro o h tm w hs
  unfold evS at he
  split at he
  · rename_i T a x ho hd
    have fin : ∀ w', (Instr.storeAt T (evl tm a) (evl tm x)).run P w = .ok () w' → Sat o h A' tm w' ∧ Ext o w o w' →
        ∃ x v w' o' h', (execOp (evl tm) op).run P w = .ok x w' ∧ (x = .value v ∨ (x = .skip ∧ v = undef)) ∧ Sat o' h' A' ((⟨tm, []⟩ : Act).put op.dst v).tmps w' ∧ Ext o w o' w' := by
      intro w' hr hs'
      refine ⟨.skip, undef, w', o, h, ?_, .inr ⟨rfl, rfl⟩, ?_, hs'.2⟩
      · simp only [execOp, ho]; simp [hr]
      · simpa only [Act.put, hd] using hs'.1
    split at he
    · rename_i r i p hT ha
      split at he
      · rename_i T' cs bk xs p' hr hp
        split at he
        · rename_i hb1 hb2
          simp only [Option.some.injEq, Prod.mk.injEq] at he
          obtain ⟨rfl, rfl⟩ := he
          have hb1 := Nat.eq_of_beq_eq_true hb1
          have hb2 : xs.length ≤ cs.length := by simpa using hb2
          have hx := partE_ok hs hp hφ.2
          obtain ⟨b, cur, h1, h2, h3, h4, h5⟩ := box_store (n := 0) hs hr hx (by omega)
          have hav : evl tm a = h i := rd_ok hs ha hφ.1
          refine fin _ ?_ h5
          rw [hav, h1]
          exact run_storeAt hl hT h2 (by rw [hx.1, hb1]) h3 h4
        · cases he
      · cases he
    · rename_i r i k e q p hT ha
      split at he
      · rename_i T' cs bk hr
        split at he
        · rename_i xs p' hp
          split at he
          · rename_i hb1 hb2
            simp only [Option.some.injEq, Prod.mk.injEq] at he
            obtain ⟨rfl, rfl⟩ := he
            have hb1 := Nat.eq_of_beq_eq_true hb1
            have hb2 : e * k + q + xs.length ≤ cs.length := by simpa using hb2
            have hx := partE_ok hs hp hφ.2
            obtain ⟨b, cur, h1, h2, h3, h4, h5⟩ := box_store (n := e * k + q) hs hr hx hb2
            obtain ⟨b', hb', hav⟩ := rd_ok hs ha hφ.1
            rw [h1] at hb'
            cases hb'
            refine fin _ ?_ h5
            rw [hav]
            exact run_storeAt hl hT h2 (by rw [hx.1, hb1]) h3 h4
          · cases he
        · cases he
      · rename_i E X hr
        split at he
        · rename_i n k' f xs p' hp
          split at he
          · rename_i hk hb1 hb2
            simp only [Option.some.injEq, Prod.mk.injEq] at he
            obtain ⟨rfl, rfl⟩ := he
            have hk := Nat.eq_of_beq_eq_true hk
            subst hk
            have hb1 := Nat.eq_of_beq_eq_true hb1
            have hb2 : q + xs.length ≤ k := by simpa using hb2
            obtain ⟨hφ1, hφ2, hφ3⟩ := hφ
            obtain ⟨hx1, hx2⟩ := partC_ok hs hp hφ2
            obtain ⟨b', hb', hav⟩ := rd_ok hs ha hφ1
            obtain ⟨vs, hown, htag, hvs⟩ := hs.res i _ hr
            rcases hown.2 with ⟨_, h00⟩ | ⟨g, cap, cur, hg, _, hheap, hnc, hcm, hcs, htake⟩
            · omega
            · rw [hg] at hb'
              cases hb'
              have hlt : e * k + q + xs.length ≤ n * k := by
                have : (e + 1) * k ≤ n * k := Nat.mul_le_mul_right k hφ3
                rw [Nat.add_mul] at this; omega
              have hnk : n * k ≤ cap * k := Nat.mul_le_mul_right k hnc
              have hone : ∀ u ∈ (evl tm x).cells.toList, u.oneCell' = true := fun u hu => by
                obtain ⟨j, hj⟩ := List.getElem?_of_mem hu
                have hj' : (evl tm x).cells[j]? = some u := by simpa using hj
                have hjx : j < xs.length := by rw [← hx1]; exact (Array.getElem?_eq_some_iff.1 hj').1
                obtain ⟨u', hu', hr⟩ := hx2 j _ (List.getElem?_eq_getElem hjx)
                rw [hj'] at hu'; cases hu'; exact hr.one
              refine fin _ (by rw [hav]; exact run_storeAt hl hT hheap (by rw [hx1, hb1]) (by rw [hx1, hcs]; omega) hone) ?_
              have hlen : (evl tm x).cells.toList.length = xs.length := by rw [Array.length_toList, hx1]
              have hsp : e * k + q + (evl tm x).cells.toList.length ≤ cur.toList.length := by rw [hlen, Array.length_toList (xs := cur), hcs]; omega
              have hcl : cur.toList.length = cap * k := by rw [Array.length_toList]; exact hcs
              have hget : ∀ j, (cur.toList.take (e * k + q) ++ (evl tm x).cells.toList ++ cur.toList.drop (e * k + q + (evl tm x).cells.toList.length))[j]? = if e * k + q ≤ j ∧ j < e * k + q + xs.length then (evl tm x).cells.toList[j - (e * k + q)]? else cur.toList[j]? := fun j => by
                rw [splice_get _ _ _ _ hsp, hlen]
              have hlen' : (cur.toList.take (e * k + q) ++ (evl tm x).cells.toList ++ cur.toList.drop (e * k + q + (evl tm x).cells.toList.length)).length = cap * k := by
                simp only [List.length_append, List.length_take, List.length_drop, hcl, hlen]; omega
              generalize (cur.toList.take (e * k + q) ++ (evl tm x).cells.toList ++ cur.toList.drop (e * k + q + (evl tm x).cells.toList.length)) = cur' at hget hlen'
              refine Sat.setRow hs hheap (htag _ (by rw [hg]; rfl)) fun hkp => ?_
              refine ⟨cur'.take (n * k), ⟨by rw [List.length_take, hlen']; omega, .inr ⟨b', cap, cur'.toArray, hg, Nat.zero_le _, setRow_heap w b' cur _ E _ hheap, hnc, hcm, by simp [hlen'], by simp⟩⟩, htag, fun e' q' he' hq' => ?_⟩
              have hlt' := one_lt he' hq'
              rw [List.getElem?_take, if_pos hlt', hget]
              by_cases hc : e' = e ∧ q ≤ q' ∧ q' - q < xs.length
              · obtain ⟨rfl, hc1, hc2⟩ := hc
                have hbb : (Nat.beq e' e' && (Nat.ble q q' && Nat.blt (q' - q) xs.length)) = true := by
                  simp [Nat.blt, hc1, Nat.succ_le_iff, hc2]
                simp only [hbb, cond_true]
                rw [if_pos (by omega)]
                obtain ⟨u, hu, hr⟩ := hx2 (q' - q) _ (List.getElem?_eq_getElem hc2)
                refine ⟨u, ?_, ?_⟩
                · rw [← hu, show e' * k + q' - (e' * k + q) = q' - q by omega]; simp
                · rw [nthD_eq, List.getD, List.getElem?_eq_getElem hc2]; exact hr.keep hkp
              · have hbb : (Nat.beq e' e && (Nat.ble q q' && Nat.blt (q' - q) xs.length)) = false := by
                  rw [Bool.eq_false_iff]
                  intro ht
                  simp [Nat.blt, Nat.succ_le_iff] at ht
                  exact hc ⟨ht.1, ht.2.1, ht.2.2⟩
                simp only [hbb, cond_false]
                have hnot : ¬ (e * k + q ≤ e' * k + q' ∧ e' * k + q' < e * k + q + xs.length) := by
                  rintro ⟨c1, c2⟩
                  have hee : e' = e := by
                    rcases Nat.lt_trichotomy e' e with hlt3 | heq | hgt
                    · have := one_lt (k := k) hlt3 hq'
                      omega
                    · exact heq
                    · have : (e + 1) * k ≤ e' * k := Nat.mul_le_mul_right k hgt
                      rw [Nat.add_mul] at this; omega
                  subst hee
                  exact hc ⟨rfl, by omega, by omega⟩
                rw [if_neg hnot]
                obtain ⟨u, hu, hr⟩ := hvs e' q' he' hq'
                refine ⟨u, ?_, hr.keep hkp⟩
                rw [← htake, List.getElem?_take, if_pos hlt'] at hu
                exact hu
          · cases he
        · cases he
      · cases he
    · cases he
  · cases he
end

end Go.Sy
