/-
  The library's Repeat of one number; hitting.Least of the code and of the specification.
-/
import Derived.Test.YtinddojpbieejaaFnV
import Derived.Test.YtinddojpbieejaaSyX
set_option linter.unusedVariables false
set_option linter.unusedSimpArgs false
namespace Go.Proofs.Ytinddojpbieejaa
open Go.Sy Go.Pu

abbrev uV (n : Int) : EV := .c (.lit (.int .u64 n))
theorem u64facts : iand .u64 1 4294967295 = 1 ∧ iand .u64 24 4294967295 = 24 ∧ ishr 1 32 = 0 ∧ ishr 24 32 = 0 ∧ ishr 0 32 = 0 ∧ iand .u64 0 4294967295 = 0 := by decide +kernel
theorem mul64_does : DoesF Try.prog 83 [uV 1, uV 24] [] (.tup [uV 0, uV 24]) [] := by
  refine DoesF.body _ Try.func83 rfl rfl rfl rfl ?_
  obtain ⟨e1, e2, e3, e4, e5, e6⟩ := u64facts
  refine KW.goRet lay_ok T30_ok 100 rfl rfl ?_ (by simp [e1, e2, e3, e4, e5, e6, inK, bitsI]) trivial
  simp [SV.ren, renL, EV.ren, e1, e2, e3, e4, e5, e6]
def fMul : List EV → Option (SV × Prop)
  | [.c (.lit (.int .u64 a)), .c (.lit (.int .u64 b))] => some (.tup [uV 0, uV 24], a = 1 ∧ b = 24)
  | _ => none
theorem fMul_ok {P : Program} {f : FuncId} (h : DoesF P f [uV 1, uV 24] [] (.tup [uV 0, uV 24]) []) : ∀ ys y φ, fMul ys = some (y, φ) → φ → DoesF P f ys [] y [] := by
  intro ys y φ he hφ
  unfold fMul at he
  split at he
  · simp only [Option.some.injEq, Prod.mk.injEq] at he
    obtain ⟨rfl, rfl⟩ := he
    obtain ⟨rfl, rfl⟩ := hφ
    exact h
  · cases he

def T31 : Fns := (83, fMul) ::
  T30
theorem T31_ok : FnsOk Try.prog T31 := .cons (T30_ok) Try.func83 rfl rfl (fMul_ok mul64_does)


theorem mul_does : DoesF Try.prog 69 [uV 1, uV 24] [] (.tup [uV 0, uV 24]) [] := by
  refine DoesF.body _ Try.func69 rfl rfl rfl rfl ?_
  refine KW.goIf lay_ok T31_ok 100 rfl (by simp) rfl trivial (fun h => ?_) fun h => ?_
  · cases h
  · exact KW.goRet lay_ok T31_ok 100 rfl rfl rfl (by simp) trivial

def T32 : Fns := (69, fMul) ::
  T31
theorem T32_ok : FnsOk Try.prog T32 := .cons (T31_ok) Try.func69 rfl rfl (fMul_ok mul_does)


def rowR (k : Nat) : List Int := List.replicate k 1 ++ List.replicate (24 - k) 0
theorem rowR_length {k : Nat} (h : k ≤ 24) : (rowR k).length = 24 := by simp [rowR]; omega
theorem rowR_get {k j : Nat} (h : k ≤ 24) (hj : j < 24) : (rowR k).getD j 0 = if j < k then 1 else 0 := by
  rw [rowR, List.getD_eq_getElem?_getD, List.getElem?_append]
  simp only [List.length_replicate, List.getElem?_replicate]
  split
  · simp
  · rw [if_pos (by omega)]; rfl
theorem evl_ne {tm : Array Value} {d s : Nat} {v : Value} (h : d ≠ s) : evl (tm.setIfInBounds d v) (.tmp s) = evl tm (.tmp s) := by
  show (tm.setIfInBounds d v).getD s undef = tm.getD s undef
  simp [Array.getD_eq_getD_getElem?, Array.getElem?_setIfInBounds, h]
theorem evl_eq {tm : Array Value} {d : Nat} {v : Value} (h : d < tm.size) : evl (tm.setIfInBounds d v) (.tmp d) = v := by
  show (tm.setIfInBounds d v).getD d undef = v
  simp [Array.getD_eq_getD_getElem?, Array.getElem?_setIfInBounds, h]
theorem y_move {P : Program} {ops : Array Oper} {o : Oper} {x : Operand} {tm : Array Value} {v : Value} (ho : o.op = .move x) (hg : o.guard = none) (hv : evl tm x = v) : Yields P ops o v ⟨tm, []⟩ :=
  .inl ⟨by simp [Region.wanted, hg], fun w => by subst hv; simp [execOp, ho]⟩
theorem y_assign {P : Program} {ops : Array Oper} {o : Oper} {x : Operand} {tm : Array Value} {v : Value} (ho : o.op = .assign x) (hg : o.guard = none) (hv : evl tm x = v) : Yields P ops o v ⟨tm, []⟩ :=
  .inl ⟨by simp [Region.wanted, hg], fun w => by subst hv; simp [execOp, ho]⟩
theorem y_lo {P : Program} {ops : Array Oper} {o : Oper} {T E : Nat} {x lo : Operand} {tm : Array Value} {i0 : TypeInfo} {g n cap k : Nat} (ho : o.op = .slice T x (some lo) none none) (hg : o.guard = none) (hu : P.underlying T = some (.slice E)) (hi : P.info? E = some i0) (h1 : i0.size = 1)
    (hx : evl tm x = .slice (some ⟨g, 0, none⟩) n cap) (hl : evl tm lo = .int .i64 k) (hk : k < n) (hn : n ≤ cap) : Yields P ops o (.slice (some ⟨g, k, none⟩) (n - k) (cap - k)) ⟨tm, []⟩ :=
  .inl ⟨by simp [Region.wanted, hg], fun w => by
    have hb : (Instr.sliceBounds true n cap (some (.int .i64 k)) none none).run P w = .ok (k, n, cap) w := by
      have e1 : (0 : Int) ≤ k := by omega
      have e2 : (k : Int) ≤ n := by omega
      simp [Instr.sliceBounds, Instr.sliceBound, asIntOf, e1, e2]
      intro hh; omega
    have hne : ¬ cap = k := by omega
    show (execOp (evl tm) o).run P w = _
    simp [execOp, ho, hx, hl, Instr.sliceAt, Instr.slice, run_underlying hu, hb, sizeOf, typeInfo, hi, h1, hne, addr_add]⟩
theorem y_hi {P : Program} {ops : Array Oper} {o : Oper} {T E : Nat} {x hi' : Operand} {tm : Array Value} {i0 : TypeInfo} {g n cap k : Nat} (ho : o.op = .slice T x none (some hi') none) (hg : o.guard = none) (hu : P.underlying T = some (.slice E)) (hi : P.info? E = some i0) (h1 : i0.size = 1)
    (hx : evl tm x = .slice (some ⟨g, 0, none⟩) n cap) (hl : evl tm hi' = .int .i64 k) (hk : k ≤ n) (hn : n ≤ cap) (h0 : 0 < k) : Yields P ops o (.slice (some ⟨g, 0, none⟩) k cap) ⟨tm, []⟩ :=
  .inl ⟨by simp [Region.wanted, hg], fun w => by
    have hb : (Instr.sliceBounds true n cap none (some (.int .i64 k)) none).run P w = .ok (0, k, cap) w := by
      have e1 : (0 : Int) ≤ k := by omega
      have e2 : (k : Int) ≤ cap := by omega
      simp [Instr.sliceBounds, Instr.sliceBound, asIntOf, e1, e2]
      intro hh; omega
    have hne : ¬ cap = 0 := by omega
    show (execOp (evl tm) o).run P w = _
    simp [execOp, ho, hx, hl, Instr.sliceAt, Instr.slice, run_underlying hu, hb, sizeOf, typeInfo, hi, h1, hne, addr_add]⟩
theorem take_step {P : Program} {md : Region.Mode} {ops : Array Oper} {Q : Exit → Act → World → Prop} {fuel : Nat} {listed : Array Bool} {tm : Array Value} {w : World} {oi : Oper} (i d : Nat) (v : Value) (hi : ops[i]? = some oi) (hd : oi.dst = some d)
    (hs : Region.noSelect ops = true) (hf : Region.free md ops listed i = true) (hr : (Region.ready md ops listed).contains i = true)
    (hQ : ∀ c a w, Q (.panic c) a w → False) (hy : Yields P ops oi v ⟨tm, []⟩)
    (h : ∀ t, t.size = tm.size → (∀ s, d ≠ s → evl t (.tmp s) = evl tm (.tmp s)) → (d < tm.size → evl t (.tmp d) = v) → wpAny P md ops Q fuel (listed.setIfInBounds i true) ⟨t, []⟩ w) : wpAny P md ops Q (fuel + 1) listed ⟨tm, []⟩ w := by
  refine wpAny_take hi hs hf hr (fun c a w hq => (hQ _ _ _ hq).elim) hy ?_
  rw [hd]
  exact h _ (by simp) (fun s hs => evl_ne hs) (fun hs => evl_eq hs)
theorem wpOp_runs {P : Program} {ops : Array Oper} {Q : Exit → Act → World → Prop} {i : Nat} {K : Act → World → Prop} {a : Act} {w w' : World} {op : Oper} {v : Value} (hi : ops[i]? = some op) (hg : op.guard = none) (hr : (execOp a.eval op).run P w = .ok (.value v) w') (h : K (a.put op.dst v) w') : wpOp P ops Q i K a w := by
  unfold wpOp
  simp only [hi]
  rw [if_pos (by simp [Region.wanted, hg])]
  left
  simp only [Oper.wp, hr, Oper.upon]
  exact h
set_option maxHeartbeats 1000000 in
theorem repeat_does : DoesF Try.prog 44 [lV [1], iV 24] [] (.e (.r 0)) [(0, .own 3 (ints (List.replicate 24 1)))] := by
  refine DoesF.body _ Try.func44 rfl rfl rfl rfl ?_
  refine KW.goIf lay_ok T32_ok 100 rfl (by simp) rfl trivial (fun h => by cases h) fun h => ?_
  refine KW.goIf lay_ok T32_ok 100 rfl (by simp [inK]) rfl trivial (fun h => by cases h) fun h => ?_
  refine KW.go lay_ok T32_ok 100 rfl (by simp [inK]) ?_
  refine KW.op rfl (copy_step lay_ok (xs := List.replicate 24 0) (ys := [1]) rfl rfl rfl rfl rfl (by decide) rfl rfl trivial rfl rfl trivial (by decide) (by decide)) ?_
  refine KW.goLpR lay_ok T32_ok 100 rfl (I := fun k : Nat => ⟨Try.f44.ntmps, [(7, .e (.r 7)), (8, sI k)], [(7, .own 3 (ints (rowR k)))]⟩) (R := fun k => 1 ≤ k ∧ k ≤ 24) (m := fun k => 24 - k) 1 [(7, 30)] rfl rfl ⟨rfl, rfl, trivial⟩ (by simp) ⟨by omega, by omega⟩ ⟨rfl, trivial⟩ ?_
  rintro k ⟨h1, h2⟩
  have hlen := rowR_length h2
  refine KW.goIf lay_ok T32_ok 100 rfl (by simp) rfl trivial (fun h => ?_) fun h => ?_
  · have hk : k < 24 := by rw [hlen] at h; simp at h; omega
    refine KW.go lay_ok T32_ok 100 rfl (by simp) ?_
    obtain ⟨m, hm⟩ : ∃ m, min k (24 - k) = m := ⟨_, rfl⟩
    refine KW.rawD rfl ⟨Try.f44.ntmps, [(8, sI ((k : Int) + (m : Int))), (46, sI ((k : Int) + (m : Int))), (38, sI k), (45, sI m), (7, .e (.r 7))], [(7, .own 3 (ints (rowR (k + m))))]⟩ (fun o h tm w hs => ?_) ?_
    · have hsz : tm.size = 48 := hs.size
      obtain ⟨g, cap, cur, hv, hheap, hnc, hcs, hcur, hwr⟩ := hs.drew.write (i := 7) (E := 3) (xs := rowR k) rfl (by rw [hlen]; decide)
      rw [hlen] at hv hnc hcur hwr
      have h7 : evl tm (.tmp 7) = .slice (some ⟨g, 0, none⟩) 24 cap := (show tm.getD 7 undef = h 7 from hs.slot 7 (.e (.r 7)) rfl).trans hv
      have h8 : evl tm (.tmp 8) = .int .i64 k := (show RepV o w (.lit (.int .i64 k)) (tm.getD 8 undef) from hs.slot 8 (sI k) rfl).1
      obtain ⟨hu, _, i0, hinfo, hi1, _⟩ := sl_elem lay_ok (T := 22) rfl
      have hQ : ∀ (A' : St) c a w', RawQ o w A' (.panic c) a w' → False := fun A' c a w' hq => by cases hq.1
      refine take_step 0 38 (.int .i64 k) rfl rfl (by decide +kernel) (by decide +kernel) (by decide +kernel) (fun c a w hq => hQ _ c a w hq) (y_move rfl rfl h8) fun t0 z0 n0 q0 => ?_
      have y7 := (n0 7 (by decide)).trans h7
      have y8 := (n0 8 (by decide)).trans h8
      have y38 := q0 (by omega)
      have sz0 : t0.size = 48 := by omega
      have x7 := y7
      have x8 := y8
      have x38 := y38
      clear y7 y8 y38
      refine take_step 1 39 (.slice (some ⟨g, 0, none⟩) 24 cap) rfl rfl (by decide +kernel) (by decide +kernel) (by decide +kernel) (fun c a w hq => hQ _ c a w hq) (y_move rfl rfl x7) fun t1 z1 n1 q1 => ?_
      have y7 := (n1 7 (by decide)).trans x7
      have y8 := (n1 8 (by decide)).trans x8
      have y38 := (n1 38 (by decide)).trans x38
      have y39 := q1 (by omega)
      have sz1 : t1.size = 48 := by omega
      clear x7 x8 x38
      have x7 := y7
      have x8 := y8
      have x38 := y38
      have x39 := y39
      clear y7 y8 y38 y39
      refine take_step 2 40 (.int .i64 k) rfl rfl (by decide +kernel) (by decide +kernel) (by decide +kernel) (fun c a w hq => hQ _ c a w hq) (y_move rfl rfl x8) fun t2 z2 n2 q2 => ?_
      have y7 := (n2 7 (by decide)).trans x7
      have y8 := (n2 8 (by decide)).trans x8
      have y38 := (n2 38 (by decide)).trans x38
      have y39 := (n2 39 (by decide)).trans x39
      have y40 := q2 (by omega)
      have sz2 : t2.size = 48 := by omega
      clear x7 x8 x38 x39
      have x7 := y7
      have x8 := y8
      have x38 := y38
      have x39 := y39
      have x40 := y40
      clear y7 y8 y38 y39 y40
      refine take_step 3 41 (.slice (some ⟨g, k, none⟩) (24 - k) (cap - k)) rfl rfl (by decide +kernel) (by decide +kernel) (by decide +kernel) (fun c a w hq => hQ _ c a w hq) (y_lo rfl rfl hu hinfo hi1 x39 x40 hk hnc) fun t3 z3 n3 q3 => ?_
      have y7 := (n3 7 (by decide)).trans x7
      have y8 := (n3 8 (by decide)).trans x8
      have y38 := (n3 38 (by decide)).trans x38
      have y39 := (n3 39 (by decide)).trans x39
      have y40 := (n3 40 (by decide)).trans x40
      have y41 := q3 (by omega)
      have sz3 : t3.size = 48 := by omega
      clear x7 x8 x38 x39 x40
      have x7 := y7
      have x8 := y8
      have x38 := y38
      have x39 := y39
      have x40 := y40
      have x41 := y41
      clear y7 y8 y38 y39 y40 y41
      refine take_step 4 42 (.slice (some ⟨g, 0, none⟩) 24 cap) rfl rfl (by decide +kernel) (by decide +kernel) (by decide +kernel) (fun c a w hq => hQ _ c a w hq) (y_move rfl rfl x7) fun t4 z4 n4 q4 => ?_
      have y7 := (n4 7 (by decide)).trans x7
      have y8 := (n4 8 (by decide)).trans x8
      have y38 := (n4 38 (by decide)).trans x38
      have y39 := (n4 39 (by decide)).trans x39
      have y40 := (n4 40 (by decide)).trans x40
      have y41 := (n4 41 (by decide)).trans x41
      have y42 := q4 (by omega)
      have sz4 : t4.size = 48 := by omega
      clear x7 x8 x38 x39 x40 x41
      have x7 := y7
      have x8 := y8
      have x38 := y38
      have x39 := y39
      have x40 := y40
      have x41 := y41
      have x42 := y42
      clear y7 y8 y38 y39 y40 y41 y42
      refine take_step 5 43 (.int .i64 k) rfl rfl (by decide +kernel) (by decide +kernel) (by decide +kernel) (fun c a w hq => hQ _ c a w hq) (y_move rfl rfl x8) fun t5 z5 n5 q5 => ?_
      have y7 := (n5 7 (by decide)).trans x7
      have y8 := (n5 8 (by decide)).trans x8
      have y38 := (n5 38 (by decide)).trans x38
      have y39 := (n5 39 (by decide)).trans x39
      have y40 := (n5 40 (by decide)).trans x40
      have y41 := (n5 41 (by decide)).trans x41
      have y42 := (n5 42 (by decide)).trans x42
      have y43 := q5 (by omega)
      have sz5 : t5.size = 48 := by omega
      clear x7 x8 x38 x39 x40 x41 x42
      have x7 := y7
      have x8 := y8
      have x38 := y38
      have x39 := y39
      have x40 := y40
      have x41 := y41
      have x42 := y42
      have x43 := y43
      clear y7 y8 y38 y39 y40 y41 y42 y43
      refine take_step 6 44 (.slice (some ⟨g, 0, none⟩) k cap) rfl rfl (by decide +kernel) (by decide +kernel) (by decide +kernel) (fun c a w hq => hQ _ c a w hq) (y_hi rfl rfl hu hinfo hi1 x42 x43 (by omega) hnc (by omega)) fun t6 z6 n6 q6 => ?_
      have y7 := (n6 7 (by decide)).trans x7
      have y8 := (n6 8 (by decide)).trans x8
      have y38 := (n6 38 (by decide)).trans x38
      have y39 := (n6 39 (by decide)).trans x39
      have y40 := (n6 40 (by decide)).trans x40
      have y41 := (n6 41 (by decide)).trans x41
      have y42 := (n6 42 (by decide)).trans x42
      have y43 := (n6 43 (by decide)).trans x43
      have y44 := q6 (by omega)
      have sz6 : t6.size = 48 := by omega
      clear x7 x8 x38 x39 x40 x41 x42 x43
      have x7 := y7
      have x8 := y8
      have x38 := y38
      have x39 := y39
      have x40 := y40
      have x41 := y41
      have x42 := y42
      have x43 := y43
      have x44 := y44
      clear y7 y8 y38 y39 y40 y41 y42 y43 y44
      have hlm : (List.replicate m (Value.int .i64 1)).length = m := by simp
      have hm24 : k + m ≤ 24 := by omega
      have hone : ∀ j, j < m → cur[j]? = some (Value.int .i64 1) := fun j hj => by rw [hcur j (by omega), rowR_get h2 (by omega), if_pos (by omega)]
      have hrun := run_copy_row Try.prog w.drew 22 22 3 3 g k (24 - k) (cap - k) ⟨g, 0, none⟩ k cap cur 3 (List.replicate m (Value.int .i64 1)) hu (by simp [hinfo, hi1]) hheap (by rw [hlm, ← hm])
        (fun j v hj => by
          rw [List.getElem?_replicate] at hj
          split at hj
          · rename_i hj'
            cases hj
            have := hone j hj'
            simp [addr_add, World.cell?, hheap, this]
          · cases hj) (by rw [hlm]; omega) (by simp [Value.oneCell'])
      rw [hlm] at hrun
      obtain ⟨cur', hcur'⟩ : ∃ cur', (cur.toList.take k ++ List.replicate m (Value.int .i64 1) ++ cur.toList.drop (k + m)).toArray = cur' := ⟨_, rfl⟩
      rw [hcur'] at hrun
      obtain ⟨hs1, hx1⟩ := hwr cur' (rowR (k + m)) (by rw [← hcur']; simp; omega) (rowR_length hm24) (fun j hj => by
        rw [rowR_get hm24 hj, ← hcur', List.getElem?_toArray]
        have hj1 := hcur j hj
        rw [← Array.getElem?_toList, rowR_get h2 hj] at hj1
        by_cases c1 : j < k
        · rw [List.append_assoc, List.getElem?_append_left (by simp; omega), List.getElem?_take, if_pos c1, hj1, if_pos c1, if_pos (by omega)]
        · by_cases c2 : j < k + m
          · rw [List.getElem?_append_left (by simp; omega), List.getElem?_append_right (by simp; omega), List.getElem?_replicate, if_pos (by simp; omega), if_pos c2]
          · rw [List.getElem?_append_right (by simp; omega), List.getElem?_drop, if_neg c2]
            rw [show k + m + (j - (List.take k cur.toList ++ List.replicate m (Value.int .i64 1)).length) = j by simp; omega, hj1, if_neg c1])
      refine wpAny_all (rs := [7]) (by decide +kernel) (by simp) fun i hi => ?_
      obtain rfl : i = 7 := by simpa using hi
      refine wpOp_runs (v := .int .i64 m) (w' := w.drew.setRow g cur') rfl rfl ?_ ?_
      · show (execOp (evl t6) _).run Try.prog w.drew = _
        simp only [execOp, resolve, invoke, builtin]
        simp [x41, x44, hrun, goInt]
      · have hA : Sat o h ⟨Try.f44.ntmps, [(38, sI k), (45, sI m), (7, .e (.r 7))], [(7, .own 3 (ints (rowR (k + m))))]⟩ (t6.setIfInBounds 45 (.int .i64 m)) (w.drew.setRow g cur') := by
          refine ⟨by simp [sz6], hs1.tags, fun s x hl => ?_, fun i r hl => ?_⟩
          · rw [lk_cons] at hl
            split at hl
            · rename_i e; subst e; cases hl
              exact ⟨(evl_ne (by decide)).trans x38, rfl⟩
            · rw [lk_cons] at hl
              split at hl
              · rename_i e; subst e; cases hl
                exact ⟨evl_eq (by omega), rfl⟩
              · rw [lk_cons] at hl
                split at hl
                · rename_i e; subst e; cases hl
                  exact ((evl_ne (by decide)).trans x7).trans hv.symm
                · simp [lk] at hl
          · rw [lk_cons] at hl
            split at hl
            · rename_i e; subst e; cases hl
              exact hs1.res 7 _ rfl
            · simp [lk] at hl
        refine wpAny_mono2 (Q := lift (fun e A'' => e = .normal ∧ A'' = ⟨Try.f44.ntmps, [(8, sI ((k : Int) + (m : Int))), (46, sI ((k : Int) + (m : Int))), (38, sI k), (45, sI m), (7, .e (.r 7))], [(7, .own 3 (ints (rowR (k + m))))]⟩) o w) (fun e a w' hq => ?_) _ _ _ _ ?_
        · obtain ⟨hd, o', h', A'', ⟨rfl, rfl⟩, hs', hx'⟩ := hq
          exact ⟨rfl, hd, o', h', hs', hx'⟩
        · refine (show KA Try.prog _ [] _ 2 _ _ from ?_) o w o h _ _ hA ((Ext.drew o w).trans hx1)
          refine KA.step (rs := [8]) (by decide +kernel) (by simp) fun i hi => ?_
          obtain rfl : i = 8 := by simpa using hi
          refine ⟨_, rfl, KW.go lay_ok T32_ok 10 rfl (by simp [inK]; omega) (KW.stop ⟨rfl, ?_⟩)⟩
          refine KA.step (rs := [9]) (by decide +kernel) (by simp) fun i hi => ?_
          obtain rfl : i = 9 := by simpa using hi
          refine ⟨_, rfl, KW.go lay_ok T32_ok 10 rfl (by simp) (KW.stop ⟨rfl, ?_⟩)⟩
          exact KA.done (by decide +kernel) (KW.stop ⟨rfl, rfl⟩)
    · refine KW.goToR lay_ok T32_ok 100 rfl (k + m) [(7, 7)] rfl rfl ⟨rfl, rfl, trivial⟩ (by simp) ⟨by omega, by omega⟩ ⟨rfl, trivial⟩
  · have hk : k = 24 := by rw [hlen] at h; simp at h; omega
    subst hk
    refine KW.goOut lay_ok T32_ok 100 rfl (by simp) ?_
    exact KW.goRetR lay_ok T32_ok 100 rfl [(0, 7)] rfl rfl rfl (by simp) (by exact ⟨rfl, trivial⟩)
end Go.Proofs.Ytinddojpbieejaa
