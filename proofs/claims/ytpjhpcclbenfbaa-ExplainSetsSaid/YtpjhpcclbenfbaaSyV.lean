/-
  MAPS FROM int TO bool AS SETS: made, asked, filled. No program is named here.
-/
import Derived.Test.YtpjhpcclbenfbaaSyU
set_option linter.unusedVariables false
set_option linter.unusedSimpArgs false
namespace Go.Sy

section
variable {P : Program} {lay : Lay} {k : List K} {A : St} {Q : Exit → St → Prop} {o : Nat → Tag} {h : Nat → Value} {tm : Array Value} {w : World}

theorem lay_map (hl : LayOk P lay) {T sz : Nat} {ag : Bool} {z : List Value} (hT : lk lay T = some ⟨sz, ag, .mapIB, z⟩) :
    ∃ kt et i, P.underlying T = some (.map kt et) ∧ P.underlying kt = some (.int .i64) ∧ P.info? et = some i ∧ i.zero = some (.bool false) := by
  obtain ⟨d, hd, ht⟩ := (hl _ _ hT).td
  simp only [tdB, Bool.and_eq_true] at ht
  obtain ⟨_, ht⟩ := ht
  split at ht
  · rename_i kt et
    simp only [Bool.and_eq_true] at ht
    obtain ⟨h1, h2⟩ := ht
    split at h1
    · rename_i hk
      split at h2
      · rename_i i hi
        split at h2
        · rename_i hz
          exact ⟨kt, et, i, hd, hk, hi, hz⟩
        · cases h2
      · cases h2
    · cases h1
  · cases ht

/-- what a set's entries are -/
def SetE (es : Array MapEntry) (xs : List Int) : Prop := (∀ e ∈ es.toList, ∃ n, e.key = .int .i64 n ∧ e.val = .bool true) ∧ ∀ n : Int, (∃ e ∈ es.toList, e.key = .int .i64 n) ↔ n ∈ xs

theorem findNow_set (n : Int) : ∀ (es : List MapEntry) (i : Nat), (∀ e ∈ es, ∃ m, e.key = .int .i64 m ∧ e.val = .bool true) →
    (((∃ e ∈ es, e.key = .int .i64 n) ∧ ∃ j e, i ≤ j ∧ es[j - i]? = some e ∧ e.key = .int .i64 n ∧ Instr.findNow (.int .i64) (.int .i64 n) es i = some (some (j, .bool true))) ∨
    ((¬ ∃ e ∈ es, e.key = .int .i64 n) ∧ Instr.findNow (.int .i64) (.int .i64 n) es i = some none))
  | [], i, _ => .inr ⟨by simp, rfl⟩
  | e :: es, i, he => by
    obtain ⟨m, hm, hv⟩ := he e (.head _)
    by_cases hmn : n = m
    · subst hmn
      refine .inl ⟨⟨e, .head _, hm⟩, i, e, Nat.le_refl _, by simp, hm, ?_⟩
      simp [Instr.findNow, hm, hv, Instr.sameNow]
    · have hne : e.key ≠ .int .i64 n := fun h' => by rw [hm] at h'; simp at h'; exact hmn h'.symm
      have hf : Instr.findNow (.int .i64) (.int .i64 n) (e :: es) i = Instr.findNow (.int .i64) (.int .i64 n) es (i + 1) := by
        have : (n == m) = false := by simpa using hmn
        simp [Instr.findNow, hm, Instr.sameNow, this]
      rcases findNow_set n es (i + 1) (fun e he' => he e (.tail _ he')) with ⟨⟨e', he', hk'⟩, j, e2, h1, h2, h3, h4⟩ | ⟨h1, h2⟩
      · refine .inl ⟨⟨e', .tail _ he', hk'⟩, j, e2, by omega, ?_, h3, hf.trans h4⟩
        rw [show j - i = (j - (i + 1)) + 1 by omega, List.getElem?_cons_succ]; exact h2
      · refine .inr ⟨?_, hf.trans h2⟩
        rintro ⟨e', he', hk'⟩
        rcases List.mem_cons.1 he' with e | he'
        · subst e; exact hne hk'
        · exact h1 ⟨e', he', hk'⟩

theorem run_checkKey {e : Bool} {kt : TypeId} (hk : P.underlying kt = some (.int .i64)) (n : Int) : (Instr.checkKey e 10000 kt (.int .i64 n)).run P w = .ok () w := by
  have h : ∀ d : Nat, (Instr.checkKey e (d + 1) kt (.int .i64 n)).run P w = .ok () w := fun d => by simp [Instr.checkKey, run_underlying hk]
  exact h 9999
theorem run_findKey {kt : TypeId} (hk : P.underlying kt = some (.int .i64)) {v : Value} {es : List MapEntry} {r : Option (Nat × Value)} (hf : Instr.findNow (.int .i64) v es 0 = some r) : (Instr.findKey kt v es).run P w = .ok r w := by
  simp [Instr.findKey, run_underlying hk, hf]
theorem run_getMap {b : Nat} {es : Array MapEntry} {c : Nat} (hb : w.heap[b]? = some (.map es c)) : (getObj b).run P w = .ok (.map es c) w := by simp [getObj, Sem.run, hb]
theorem run_setMap {b : Nat} {es : Array MapEntry} {c : Nat} (hb : w.heap[b]? = some (.map es c)) (ob : Obj) : (setObj b ob).run P w = .ok () { w with heap := w.heap.setIfInBounds b ob } := by simp [setObj, Sem.run, hb]

/-- is it in the set? -/
theorem KW.look (hl : LayOk P lay) {all : Array Oper} {op : Oper} {rest : List Oper} {T d i sz : Nat} {ag : Bool} {z : List Value} {m x : Operand} {xs : List Int} {n : Int} {p q : Prop}
    (ho : op.op = .lookup T m x false) (hg : op.guard = none) (hd : op.dst = some d) (hlt : Nat.blt d A.n = true) (hT : lk lay T = some ⟨sz, ag, .mapIB, z⟩) (hm : rd A m = some (.r i, p)) (hr : lk A.rs i = some (.mset xs)) (hx : litOf A x = some (.int .i64 n, q)) (hp : p) (hq : q)
    (hn : KW P (.ops all rest :: k) .normal ⟨A.n, (d, sB (decide (n ∈ xs))) :: A.sl, A.rs⟩ Q) : KW P (.ops all (op :: rest) :: k) .normal A Q := by
  have hlt : d < A.n := by simpa [Nat.blt, Nat.succ_le_iff] using hlt
  refine KW.op hg (fun o h tm w hs => ?_) hn
  obtain ⟨kt, et, inf, hu, hk, hi, hz⟩ := lay_map hl hT
  obtain ⟨b, es, clock, h1, h2, h3, h4, h5⟩ := hs.res i _ hr
  have hmv : evl tm m = .map (some b) := (show evl tm m = h i from rd_ok hs hm hp).trans h1
  have hxv := (litOf_ok hs hx hq).1
  have hzv : (zeroValue et).run P w = .ok (.bool false) w := by simp [zeroValue, typeInfo, hi, hz]
  refine ⟨_, .bool (decide (n ∈ xs)), w, o, h, ?_, .inl rfl, ?_, Ext.refl o w⟩
  · simp only [execOp, ho, hmv, hxv]
    refine value_of ?_
    rcases findNow_set n es.toList 0 h4 with ⟨g1, j, e, _, _, _, g4⟩ | ⟨g1, g4⟩
    · have hin : n ∈ xs := (h5 n).1 g1
      simp [Instr.lookup, run_underlying hu, run_getMap h2, run_checkKey hk, run_findKey hk g4, hin]
    · have hin : ¬ n ∈ xs := fun hx => g1 ((h5 n).2 hx)
      simp [Instr.lookup, run_underlying hu, run_getMap h2, run_checkKey hk, run_findKey hk g4, hin, hzv]
  · simpa only [Act.put, hd] using hs.put hlt (sv := sB (decide (n ∈ xs))) (show RepV o w (.lit (.bool (decide (n ∈ xs)))) _ from ⟨rfl, rfl⟩)

theorem KW.makeMap {all : Array Oper} {op : Oper} {rest : List Oper} {T d : Nat} (ho : op.op = .makeMap T none) (hg : op.guard = none) (hd : op.dst = some d) (hlt : Nat.blt d A.n = true) (hf : freshB A d = true)
    (hn : KW P (.ops all rest :: k) .normal ⟨A.n, (d, .e (.r d)) :: A.sl, (d, .mset []) :: A.rs⟩ Q) : KW P (.ops all (op :: rest) :: k) .normal A Q := by
  have hlt : d < A.n := by simpa [Nat.blt, Nat.succ_le_iff] using hlt
  refine KW.op hg (fun o h tm w hs => ?_) hn
  have ha := Sat.alloc hs hlt hf (obj := .map #[] 0) (v := .map (some w.heap.size)) (r := .mset []) (sv := .e (.r d))
    ⟨w.heap.size, #[], 0, by simp [updH], heap_alloc_new w _, by simp [updO], by simp, by simp⟩ (by simp [SvOk, EvOk, updH])
  refine ⟨_, .map (some w.heap.size), _, updO o w.heap.size (.hd d), updH h d (.map (some w.heap.size)), ?_, .inl rfl, ?_, ha.2⟩
  · simp only [execOp, ho]
    exact value_of rfl
  · simpa only [Act.put, hd] using ha.1

/-- put into the set -/
theorem KW.mapPut (hl : LayOk P lay) {all : Array Oper} {op : Oper} {rest : List Oper} {T i sz : Nat} {ag : Bool} {z : List Value} {m x : Operand} {xs : List Int} {n : Int} {p q : Prop}
    (ho : op.op = .mapUpdate T m x (.const (.bool true))) (hg : op.guard = none) (hd : op.dst = none) (hT : lk lay T = some ⟨sz, ag, .mapIB, z⟩) (hm : rd A m = some (.r i, p)) (hr : lk A.rs i = some (.mset xs)) (hx : litOf A x = some (.int .i64 n, q)) (hp : p) (hq : q)
    (hn : KW P (.ops all rest :: k) .normal ⟨A.n, A.sl, (i, .mset (n :: xs)) :: A.rs⟩ Q) : KW P (.ops all (op :: rest) :: k) .normal A Q := by
  refine KW.op hg (fun o h tm w hs => ?_) hn
  obtain ⟨kt, et, inf, hu, hk, hi, hz⟩ := lay_map hl hT
  obtain ⟨b, es, clock, h1, h2, h3, h4, h5⟩ := hs.res i _ hr
  have hmv : evl tm m = .map (some b) := (show evl tm m = h i from rd_ok hs hm hp).trans h1
  have hxv := (litOf_ok hs hx hq).1
  have hcv : evl tm (.const (.bool true)) = .bool true := rfl
  have hblt : b < w.heap.size := (hs.tags b).1 i h3
  have fin : ∀ (es' : Array MapEntry) (c' : Nat), SetE es' (n :: xs) → (Instr.mapUpdate T (.map (some b)) (.int .i64 n) (.bool true)).run P w = .ok () { w with heap := w.heap.setIfInBounds b (.map es' c') } →
      ∃ x v w' o' h', (execOp (evl tm) op).run P w = .ok x w' ∧ (x = .value v ∨ (x = .skip ∧ v = undef)) ∧ Sat o' h' ⟨A.n, A.sl, (i, .mset (n :: xs)) :: A.rs⟩ ((⟨tm, []⟩ : Act).put op.dst v).tmps w' ∧ Ext o w o' w' := by
    intro es' c' hse hrun
    have hoth : ∀ b', b' ≠ b → ({ w with heap := w.heap.setIfInBounds b (.map es' c') } : World).heap[b']? = w.heap[b']? := fun b' hne => by
      show (w.heap.setIfInBounds b (.map es' c'))[b']? = _
      rw [Array.getElem?_setIfInBounds_ne (Ne.symm hne)]
    have hsz : ({ w with heap := w.heap.setIfInBounds b (.map es' c') } : World).heap.size = w.heap.size := by show (w.heap.setIfInBounds _ _).size = _; simp
    have hc : Chg o h w o h { w with heap := w.heap.setIfInBounds b (.map es' c') } (fun j => j = i) A := by
      refine ⟨fun b' hb' => ⟨hb', hoth b' ?_⟩, fun j b' hj hb' => ⟨hb', hoth b' ?_⟩, fun j hj => absurd rfl hj⟩
      · rintro rfl; rw [h3] at hb'; cases hb'
      · rintro rfl; rw [h3] at hb'; cases hb'; exact hj rfl
    refine ⟨.skip, undef, _, o, h, ?_, .inr ⟨rfl, rfl⟩, ?_, ⟨Nat.le_of_eq hsz.symm, rfl, rfl, rfl, Nat.le_refl _, fun b' hb' _ => ⟨hb', hoth b' ?_⟩, fun b' hb' _ => ⟨hb', hoth b' ?_⟩⟩⟩
    · simp only [execOp, ho, hmv, hxv, hcv]
      simp [hrun]
    · simp only [Act.put, hd]
      refine ⟨hs.size, fun b' => by rw [hsz]; exact hs.tags b', fun s x hl => hc.slot hs s x hl, fun j r' hl => ?_⟩
      rw [lk_cons] at hl
      split at hl
      · rename_i e; subst e; cases hl
        refine ⟨b, es', c', h1, ?_, h3, hse.1, hse.2⟩
        show (w.heap.setIfInBounds b (.map es' c'))[b]? = _
        rw [Array.getElem?_setIfInBounds_self]; simp [hblt]
      · rename_i hne; exact hc.resOk hs j r' (fun e => hne e.symm) hl
    · rintro rfl; rw [h3] at hb'; cases hb'
    · rintro rfl; rw [h3] at hb'; cases hb'
  rcases findNow_set n es.toList 0 h4 with ⟨g1, j, e, _, g2, g3, g4⟩ | ⟨g1, g4⟩
  · have hin : n ∈ xs := (h5 n).1 g1
    rw [Nat.sub_zero] at g2
    have g2' : es[j]? = some e := by simpa using g2
    refine fin (es.modify j fun e => ⟨.int .i64 n, .bool true, e.born⟩) clock ⟨fun e' he' => ?_, fun m => ?_⟩ ?_
    · obtain ⟨q, hq'⟩ := List.mem_iff_getElem?.1 he'
      rw [Array.getElem?_toList, Array.getElem?_modify] at hq'
      split at hq'
      · rw [Option.map_eq_some_iff] at hq'
        obtain ⟨e2, _, rfl⟩ := hq'
        exact ⟨n, rfl, rfl⟩
      · exact h4 e' (List.mem_of_getElem? (by simpa using hq'))
    · rw [List.mem_cons, ← h5 m]
      constructor
      · rintro ⟨e', he', hk'⟩
        obtain ⟨q, hq'⟩ := List.mem_iff_getElem?.1 he'
        rw [Array.getElem?_toList, Array.getElem?_modify] at hq'
        split at hq'
        · rw [Option.map_eq_some_iff] at hq'
          obtain ⟨e2, _, rfl⟩ := hq'
          simp at hk'
          exact .inl hk'.symm
        · exact .inr ⟨e', List.mem_of_getElem? (by simpa using hq'), hk'⟩
      · have self : ∃ e' ∈ (es.modify j fun e => ⟨.int .i64 n, .bool true, e.born⟩).toList, e'.key = .int .i64 n := by
          refine ⟨⟨.int .i64 n, .bool true, e.born⟩, List.mem_of_getElem? (i := j) ?_, rfl⟩
          rw [Array.getElem?_toList, Array.getElem?_modify, if_pos rfl, g2']; rfl
        rintro (rfl | ⟨e', he', hk'⟩)
        · exact self
        · obtain ⟨q, hq'⟩ := List.mem_iff_getElem?.1 he'
          by_cases hqj : j = q
          · subst hqj
            rw [g2] at hq'
            cases hq'
            rw [g3] at hk'
            simp at hk'
            rw [← hk']; exact self
          · refine ⟨e', List.mem_of_getElem? (i := q) ?_, hk'⟩
            rw [Array.getElem?_toList, Array.getElem?_modify, if_neg hqj]
            simpa using hq'
    · have hst : (Instr.keyThatStays (.int .i64 n) (.int .i64 n)).run P w = .ok (.int .i64 n) w := by simp [Instr.keyThatStays, Instr.sameBits]
      have hkk : ((es[j]?).map (·.key)).getD (.int .i64 n) = .int .i64 n := by rw [g2']; simpa using g3
      simp [Instr.mapUpdate, run_underlying hu, run_getMap h2, run_checkKey hk, run_findKey hk g4, hkk, hst, run_setMap h2]
  · have hin : ¬ n ∈ xs := fun hx => g1 ((h5 n).2 hx)
    refine fin (es.push ⟨.int .i64 n, .bool true, clock⟩) (clock + 1) ⟨fun e' he' => ?_, fun m => ?_⟩ ?_
    · rw [Array.toList_push, List.mem_append, List.mem_singleton] at he'
      rcases he' with he' | rfl
      · exact h4 e' he'
      · exact ⟨n, rfl, rfl⟩
    · rw [List.mem_cons, ← h5 m]
      constructor
      · rintro ⟨e', he', hk'⟩
        rw [Array.toList_push, List.mem_append, List.mem_singleton] at he'
        rcases he' with he' | rfl
        · exact .inr ⟨e', he', hk'⟩
        · simp at hk'; exact .inl hk'.symm
      · rintro (rfl | ⟨e', he', hk'⟩)
        · exact ⟨⟨.int .i64 m, .bool true, clock⟩, by rw [Array.toList_push]; simp, rfl⟩
        · exact ⟨e', by rw [Array.toList_push]; simp [he'], hk'⟩
    · simp [Instr.mapUpdate, run_underlying hu, run_getMap h2, run_checkKey hk, run_findKey hk g4, run_setMap h2]
end

/-- one number of a row of the call's own is written over -/
theorem KW.updI {P : Program} {k : List K} {A : St} {Q : Exit → St → Prop} {ex : Exit} (i : Nat) {E e : Nat} {a : List Int} {v : Int} (hl : lk A.rs i = some (.own E (updV (ints a) e 0 [.lit (.int .i64 v)])))
    (hk : KW P k ex ⟨A.n, A.sl, (i, .own E (ints (a.set e v))) :: A.rs⟩ Q) : KW P k ex A Q := by
  refine KW.convR i (ints (a.set e v)) (g := fun e' _ => .lit (.int .i64 ((a.set e v).getD e' 0))) hl (by simp only [ints, List.length_set]) (fun e' q he hq => ?_) hk
  have : q = 0 := by omega
  subst this
  by_cases h : e' = e
  · subst h
    simp [Nat.beq_refl, Nat.blt, nthD, List.getD_eq_getElem?_getD, he]
    exact CVEq.refl (.lit (.int .i64 v))
  · have hb : Nat.beq e' e = false := by
      cases hb : Nat.beq e' e with
      | false => rfl
      | true => exact absurd (Nat.eq_of_beq_eq_true hb) h
    simp [hb, CVEq, List.getD_eq_getElem?_getD, List.getElem?_set_ne (Ne.symm h)]
end Go.Sy
