/-
  strings.Builder in a box of one's own: append of a string's bytes; the bytes as a string. No program is named here.
-/
import Derived.Test.YtpkjbchplkfmhaaDoorSyO
import Derived.Lib.AppendStr
import Derived.Lib.UnsafeStr
import Derived.Lib.Builder
import Derived.Laws.Pointers
import Derived.Laws.Externs
import Derived.Shelf.Strings.Builder1
set_option linter.unusedSectionVars false
set_option linter.unusedVariables false
set_option linter.unusedSimpArgs false
namespace Go.Sy
open Go.Lib Go.Shelf
variable [Drw]
/-- a row of bytes -/
def bytesC (bs : List UInt8) : CV := .sl bs.length 1 fun e _ => .lit (.int .u8 ((bs.getD e 0).toNat : Int))
def byteV (b : UInt8) : Value := .int .u8 (b.toNat : Int)
section
variable {P : Program} {lay : Lay} {o o' : Nat → Tag} {h h' : Nat → Value} {A A' : St} {tm : Array Value} {w w' : World} {Q : Exit → St → Prop} {k : List K} {e : Exit}
theorem strCells_eq (s : ByteArray) : strCells s = s.data.toList.map byteV := rfl
theorem bytes_vs {i E : Nat} {bs : List UInt8} (hs : Sat o h A tm w) (hi : lk A.rs i = some (.own E (bytesC bs))) : w.ownsRow 0 E 1 (h i) bs.length (bs.map byteV) ∧ ∀ b, (h i).ownBlock = some b → o b = .hd i := by
  obtain ⟨vs, hown, htag, hvs⟩ := hs.res i _ hi
  have e : vs = bs.map byteV := by
    refine List.ext_getElem? fun j => ?_
    by_cases hj : j < bs.length
    · obtain ⟨u, hu, hr⟩ := hvs j 0 hj (by omega)
      have h1 : u = byteV (bs.getD j 0) := hr.1
      rw [Nat.mul_one, Nat.add_zero] at hu
      rw [hu, h1, List.getElem?_map, List.getElem?_eq_getElem hj]
      simp [List.getD_eq_getElem?_getD, hj]
    · have hl := hown.1
      rw [List.getElem?_eq_none (by omega), List.getElem?_eq_none (by simp; omega)]
  subst e
  exact ⟨hown, htag⟩
theorem bytes_rep {vs : List Value} {bs : List UInt8} (hv : vs = bs.map byteV) : ∀ e q, e < bs.length → q < 1 → ∃ u, vs[e * 1 + q]? = some u ∧ RepV o w (.lit (byteV (bs.getD e 0))) u := by
  intro e q he hq
  obtain rfl : q = 0 := by omega
  refine ⟨byteV (bs.getD e 0), ?_, rfl, rfl⟩
  rw [hv, Nat.mul_one, Nat.add_zero, List.getElem?_map, List.getElem?_eq_getElem he]
  simp [List.getD_eq_getElem?_getD, he]
/-- a string's bytes are appended to a row of one's own -/
theorem appS_step (hl : LayOk P lay) {op : Oper} {c : Call} {d i E t u sz : Nat} {ag : Bool} {zz zu : List Value} {sl x : Operand} {p q : Prop} {bs : List UInt8} {s : ByteArray}
    (ho : op.op = .call c) (hd : op.dst = some d) (hlt : Nat.blt d A.n = true) (hf : freshB A d = true) (hc : c.callee = .builtin .append) (ha : c.args = #[sl, x]) (hta : c.argTypes = #[t, u])
    (hT : lk lay t = some ⟨sz, ag, .sl E 1 1, zz⟩) (hE : lk lay E = some ⟨1, false, .int .u8, [.int .u8 0]⟩) (hU : lk lay u = some ⟨1, false, .str, zu⟩)
    (hr : rd A sl = some (.r i, p)) (hp : p) (hi : lk A.rs i = some (.own E (bytesC bs))) (hx : rd A x = some (.c (.lit (.string s)), q)) (hq : q) (hlen : bs.length + s.size ≤ 140737488355328) :
    OpStep P op A ⟨A.n, (d, .e (.r d)) :: A.sl, (d, .own E (bytesC (bs ++ s.data.toList))) :: (i, .gone) :: A.rs⟩ := by
  intro o h tm w hs
  have hlt : d < A.n := by simpa [Nat.blt, Nat.succ_le_iff] using hlt
  have hsv : evl tm sl = h i := rd_ok hs hr hp
  have hxv : evl tm x = .string s := (rd_ok hs hx hq).1
  obtain ⟨hu, hes, i0, hinfo, hisz, hiby⟩ := sl_elem hl hT
  obtain ⟨iE, z, hiE, hszE, hzE, hzcE, _, hz1⟩ := (hl _ _ hE).info
  rw [hinfo] at hiE
  cases hiE
  have hz0 : z = .int .u8 0 := by
    have e1 := hz1 rfl
    simp only [e1] at hzcE
    simpa using hzcE
  subst hz0
  have hus : P.underlying u = some .string := by
    obtain ⟨du, g1, g2⟩ := (hl _ _ hU).td
    rw [g1]
    cases du <;> simp [tdB] at g2 ⊢
  have hrun : ∀ {v w'}, (Builtin.append_ #[t, u] op.type #[h i, .string s]).run P w = .ok v w' → (∃ o' h', Sat o' h' ⟨A.n, (d, .e (.r d)) :: A.sl, (d, .own E (bytesC (bs ++ s.data.toList))) :: (i, .gone) :: A.rs⟩ (tm.setIfInBounds d v) w' ∧ Ext o w o' w') →
      ∃ x v w' o' h', (execOp (evl tm) op).run P w = .ok x w' ∧ (x = .value v ∨ (x = .skip ∧ v = undef)) ∧ Sat o' h' ⟨A.n, (d, .e (.r d)) :: A.sl, (d, .own E (bytesC (bs ++ s.data.toList))) :: (i, .gone) :: A.rs⟩ ((⟨tm, []⟩ : Act).put op.dst v).tmps w' ∧ Ext o w o' w' := by
    rintro v w' hr ⟨o', h', h1, h2⟩
    refine ⟨_, v, w', o', h', ?_, .inl rfl, by simpa only [Act.put, hd] using h1, h2⟩
    simp only [execOp, ho, resolve, hc, invoke, builtin, ha, hta]
    simp [hsv, hxv, hr]
  obtain ⟨hown, htag⟩ := bytes_vs hs hi
  have hlenS : s.data.toList.length = s.size := by rw [Array.length_toList]; rfl
  have hnm : (bs ++ s.data.toList).length = bs.length + s.size := by rw [List.length_append, hlenS]
  have hbC : bytesC (bs ++ s.data.toList) = .sl (bs.length + s.size) 1 fun e q => .lit (byteV ((bs ++ s.data.toList).getD e 0)) := by rw [← hnm]; rfl
  have hvs : (bs ++ s.data.toList).map byteV = bs.map byteV ++ strCells s := by rw [List.map_append]; rfl
  have grow : ∀ old : Nat, (∃ o' h', Sat o' h' ⟨A.n, (d, .e (.r d)) :: A.sl, (d, .own E (bytesC (bs ++ s.data.toList))) :: (i, .gone) :: A.rs⟩ (tm.setIfInBounds d (.slice (some ⟨w.heap.size, 0, none⟩) (bs.length + s.size) (grownCap w (bs.length + s.size) old E)))
      (w.drew.alloc (.cells ((bs.map byteV).toArray ++ (strCells s).toArray ++ Builtin.zeroCells (Value.int .u8 0).cells (grownCap w (bs.length + s.size) old E - (bs.length + s.size))) E)) ∧ Ext o w o' (w.drew.alloc (.cells ((bs.map byteV).toArray ++ (strCells s).toArray ++ Builtin.zeroCells (Value.int .u8 0).cells (grownCap w (bs.length + s.size) old E - (bs.length + s.size))) E))) := by
    intro old
    have hge := grownCap_ge w (bs.length + s.size) old E
    have hcm := grownCap_le_maxLen w (bs.length + s.size) old E (by simp only [maxLen]; omega)
    generalize grownCap w (bs.length + s.size) old E = G at *
    have hl1 : (bs.map byteV ++ strCells s).length = bs.length + s.size := by rw [List.length_append, List.length_map, strCells_length]
    obtain ⟨o', h', hs', hx'⟩ := Sat.newRow (hs.drew) hlt hf (E := E) (k := 1) (n := bs.length + s.size) (cap := G) (cur := (bs.map byteV).toArray ++ (strCells s).toArray ++ Builtin.zeroCells (Value.int .u8 0).cells (G - (bs.length + s.size)))
      (f := fun e q => .lit (byteV ((bs ++ s.data.toList).getD e 0))) hge hcm (by
        have hz1 : (Value.int IntKind.u8 0).cells.size = 1 := rfl
        simp only [Array.size_append, List.size_toArray, size_zeroCells, hz1, strCells_length, List.length_map]
        omega) (fun e q he hq => by
        obtain ⟨u, hu, hx⟩ := bytes_rep (o := o) (w := w) hvs.symm e q (by rw [hnm]; exact he) hq
        refine ⟨u, ?_, hx.drew⟩
        rw [← Array.getElem?_toList]
        simp only [Array.toList_append]
        rw [List.getElem?_append_left (by rw [List.length_append, List.length_map, strCells_length]; omega)]
        exact hu)
    rw [hbC]
    exact ⟨o', h', hs'.gone i rfl, (Ext.drew o w).trans hx'⟩
  rcases hown.2 with ⟨h0, hn0⟩ | ⟨g, cap, cur, h0, _, hg, hnc, hcm, hcs, htake⟩
  · have hb0 : bs = [] := List.length_eq_zero_iff.1 hn0
    by_cases hm : s.size = 0
    · have e2 : s.data.toList = [] := List.length_eq_zero_iff.1 (by omega)
      refine hrun (v := .slice none 0 0) (w' := w) ?_ ?_
      · rw [h0]
        have hf' := run_firstCells_string (P := P) w i0.size s
        rw [hm, strCells_eq, e2] at hf'
        have hk0 : (Builtin.firstCells i0.size 0 (.string s)).run P w = .ok #[] w := hf'
        simp [Builtin.append_, run_underlying hu, run_underlying hus, sizeOf, typeInfo, hinfo, hisz, Builtin.lenOf, hm, Builtin.firstCells]
      · rw [← h0, e2, List.append_nil]
        exact Sat.rename hs hlt hf hi fun e q _ _ => rfl
    · have hr := run_append_nil_string (P := P) w t u op.type E i0 (.int .u8 0) hu hus hinfo hzE s (by omega) (by omega) (by rw [hiby]; omega)
      have hgr := grow 0
      rw [hb0] at hgr
      rw [hb0]
      simp only [List.map_nil, List.length_nil, Nat.zero_add, Array.empty_append] at hgr ⊢
      have e1 : (s.data.map fun b => Value.int .u8 b.toNat) = (strCells s).toArray := by
        apply Array.ext'
        simp [strCells]
      rw [e1] at hr
      rw [hb0] at hrun
      refine hrun (by rw [h0]; exact hr) hgr
  · by_cases hroom : bs.length + s.size ≤ cap
    · have hcs' : cur.size = cap := by simpa using hcs
      have hr := run_append_room_string (P := P) w t u op.type E i0 hu hus hinfo hisz g bs.length cap cur hg s hroom (by omega)
      refine hrun (by rw [h0]; exact hr) ?_
      rw [hbC]
      have ht' : cur.toList.take bs.length = bs.map byteV := by simpa using htake
      refine Sat.inPlace hs hlt hf hg (htag g (by rw [h0]; rfl)) hroom hcm ?_ fun e q he hq => ?_
      · simp only [List.size_toArray, List.length_append, List.length_take, List.length_drop, Array.length_toList, strCells_length]
        omega
      · obtain ⟨u, hu, hx⟩ := bytes_rep (o := o) (w := w) hvs.symm e q (by rw [hnm]; exact he) hq
        refine ⟨u, ?_, hx⟩
        rw [List.getElem?_toArray, ht', List.getElem?_append_left (by rw [List.length_append, List.length_map, strCells_length]; omega)]
        exact hu
    · have holds : ∀ j u, (bs.map byteV)[j]? = some u → w.cell? ((⟨g, 0, none⟩ : Addr).add j) = some u := hown.cells (g := g) (by rw [h0]; rfl)
      have hr := run_append_grow_string (P := P) w t u op.type E i0 (.int .u8 0) hu hus hinfo hzE ⟨g, 0, none⟩ bs.length cap (bs.map byteV) (by rw [hisz]; simp) holds s (by omega) (by omega) (by rw [hiby]; exact growslice_fits (by omega) (by omega))
      exact hrun (by rw [h0]; exact hr) (grow cap)
theorem KW.appS (hl : LayOk P lay) {all : Array Oper} {op : Oper} {rest : List Oper} {c : Call} {d i E t u sz : Nat} {ag : Bool} {zz zu : List Value} {sl x : Operand} {p q : Prop} {bs : List UInt8} {s : ByteArray}
    (hg : op.guard = none) (ho : op.op = .call c) (hd : op.dst = some d) (hlt : Nat.blt d A.n = true) (hf : freshB A d = true) (hc : c.callee = .builtin .append) (ha : c.args = #[sl, x]) (hta : c.argTypes = #[t, u])
    (hT : lk lay t = some ⟨sz, ag, .sl E 1 1, zz⟩) (hE : lk lay E = some ⟨1, false, .int .u8, [.int .u8 0]⟩) (hU : lk lay u = some ⟨1, false, .str, zu⟩)
    (hr : rd A sl = some (.r i, p)) (hp : p) (hi : lk A.rs i = some (.own E (bytesC bs))) (hx : rd A x = some (.c (.lit (.string s)), q)) (hq : q) (hlen : bs.length + s.size ≤ 140737488355328)
    (hn : KW P (.ops all rest :: k) .normal ⟨A.n, (d, .e (.r d)) :: A.sl, (d, .own E (bytesC (bs ++ s.data.toList))) :: (i, .gone) :: A.rs⟩ Q) : KW P (.ops all (op :: rest) :: k) .normal A Q :=
  KW.op hg (appS_step hl ho hd hlt hf hc ha hta hT hE hU hr hp hi hx hq hlen) hn
theorem argsOne {args : Array Value} {a : Value} (hs : args.size = 1) (h0 : args.getD 0 undef = a) : args = #[a] := by
  match args, hs with
  | ⟨[x]⟩, _ => simp at h0; subst h0; rfl
/-- an operation that computes a value, and leaves the world as it was -/
theorem KW.runV {all : Array Oper} {op : Oper} {rest : List Oper} {d : Nat} (sv : SV) (hg : op.guard = none) (hd : op.dst = some d) (hlt : Nat.blt d A.n = true)
    (hr : ∀ o h tm w, Sat o h A tm w → ∃ v, (execOp (evl tm) op).run P w = .ok (.value v) w ∧ SvOk o h w sv v) (hn : KW P (.ops all rest :: k) .normal ⟨A.n, (d, sv) :: A.sl, A.rs⟩ Q) : KW P (.ops all (op :: rest) :: k) .normal A Q := by
  refine KW.op hg (fun o h tm w hs => ?_) hn
  obtain ⟨v, h1, h2⟩ := hr o h tm w hs
  have hlt : d < A.n := by simpa [Nat.blt, Nat.succ_le_iff] using hlt
  refine ⟨_, v, w, o, h, h1, .inl rfl, ?_, Ext.refl o w⟩
  simp only [Act.put, hd]
  exact hs.put hlt h2
theorem run_exec_eqnil {op : Oper} {T T2 : TypeId} {x : Operand} {p : Option Addr} (ho : op.op = .binOp .eql T x (.const (.pointer none)) T2) (hx : evl tm x = .pointer p) (hT : P.underlying T = some (.pointer (P.pointee T))) :
    (execOp (evl tm) op).run P w = .ok (.value (.bool p.isNone)) w := by
  simp only [execOp, ho, hx]
  refine value_of ?_
  have hgd : (eqGuard .eql T x (.const (.pointer none)) (.pointer p) (.pointer none)).run P w = .ok () w := by
    unfold eqGuard; split <;> first | rfl | simp_all
  have hc : evl tm (.const (.pointer none)) = .pointer none := rfl
  simp only [hc, Sem.run_bind, hgd, Result.andThen_ok]
  exact run_eql_pointer_nil w T p hT
theorem run_exec_neqsame {op : Oper} {T T2 te : TypeId} {j : TypeInfo} {x y : Operand} {a : Addr} (ho : op.op = .binOp .neq T x y T2) (hx : evl tm x = .pointer (some a)) (hy : evl tm y = .pointer (some a)) (hp : P.underlying T = some (.pointer te)) (hte : P.info? te = some j) :
    (execOp (evl tm) op).run P w = .ok (.value (.bool false)) w := by
  simp only [execOp, ho, hx, hy]
  refine value_of ?_
  have hgd : (eqGuard .neq T x y (.pointer (some a)) (.pointer (some a))).run P w = .ok () w := by
    unfold eqGuard; split <;> first | rfl | simp_all
  simp only [Sem.run_bind, hgd, Result.andThen_ok]
  exact run_neq_ptr_same w a hp hte
/-- a box's block: its shape -/
theorem Sat.shape (hs : Sat o h A tm w) {i T : Nat} {cs : List EV} {bk : Option Nat} (hi : lk A.rs i = some (.box T cs bk)) : ∃ b, h i = .pointer (some ⟨b, 0, none⟩) ∧ w.shape? b = some (T, cs.length) := by
  obtain ⟨b, vs, h0, h1, h2, h3, h4, h5⟩ := hs.res i _ hi
  exact ⟨b, h1, by simp [World.shape?, h2, h4]⟩
open Go.RowKit Go.Proofs in
set_option maxHeartbeats 1000000 in
set_option maxRecDepth 100000 in
/-- (*strings.Builder).String at at least one byte: what the world is behind it -/
theorem string_raw {ρ : Ren} (L : Go.Proofs.Lays.n169 P ρ) (X : Go.Proofs.Builder.Extra P ρ) {b g cap : Nat} {p : Value} {cur : Array Value} {l : List UInt8} (h0 : l ≠ []) (hbk : w.heap[b]? = some (.cells #[p, .slice (some ⟨g, 0, none⟩) l.length cap] (ρ.t 72) (0, 0)))
    (hg : w.heap[g]? = some (.cells cur (ρ.t 5) (0, 0))) (hnc : l.length ≤ cap) (hcm : cap ≤ maxLen) (hcs : cur.size = cap) (hrow : ∀ (j : Nat) x, l[j]? = some x → w.cell? ((⟨g, 0, none⟩ : Addr).add j) = some (byteV x)) :
    Calls P (ρ.f 169) #[.pointer (some ⟨b, 0, none⟩)] w fun e w' => e = .returned (.string ⟨l.toArray⟩) ∧ w' = w.drew.freeze ⟨g, 0, none⟩ l.length := by
  have hl0 : l.length ≠ 0 := by simpa using h0
  have c1 : w.drew.cell? ⟨b, 1, none⟩ = some (.slice (some ⟨g, 0, none⟩) l.length cap) := by
    rw [cell_of_heap (w := w.drew) hbk]; rfl
  have hSD : (Builtin.unsafeSliceData_ #[ρ.t 37] (ρ.t 127) #[.slice (some ⟨g, 0, none⟩) l.length cap]).run P w.drew = .ok (.pointer (some ⟨g, 0, none⟩)) w.drew := run_unsafeSliceData_row _ _ _ _ _ _ (by omega)
  have hUS := run_unsafeString_row (P := P) w.drew (ρ.t 127) (ρ.t 3) (ρ.t 9) (ρ.t 5) L.t127 X.cellsByte g cur.size (by have e : w.drew.heap[g]? = some (.cells cur (ρ.t 5) (0, 0)) := hg; simp [World.shape?, e]) l h0 (by omega) (by unfold maxLen at hcm; omega) hrow
  have mixed := L.mixed
  have a72 := L.a72; have z72 := L.z72; have v72 := L.v72; have u72 := run_underlying L.t72
  have a70 := L.a70; have z70 := L.z70; have v70 := L.v70; have u70 := run_underlying L.t70
  have a37 := L.a37; have z37 := L.z37; have v37 := L.v37; have u37 := run_underlying L.t37
  have a127 := L.a127; have z127 := L.z127; have v127 := L.v127; have u127 := run_underlying L.t127
  have a3 := L.a3; have z3 := L.z3; have v3 := L.v3; have u3 := run_underlying L.t3
  have a9 := L.a9; have z9 := L.z9; have v9 := L.v9; have u9 := run_underlying L.t9
  have a5 := X.a5; have z5 := X.z5; have v5 := X.v5; have u5 := run_underlying X.t5
  have t72 := L.t72; have t70 := L.t70; have t37 := L.t37; have t127 := L.t127; have t3 := L.t3; have t9 := L.t9; have t5 := X.t5
  go_enter L.f169, Body.n169_ntmps ρ
  go_wp2
  go_region_o
  all_goals (go_wp2; go_ret; exact ⟨rfl, rfl⟩)
theorem string_does {ρ : Ren} (L : Go.Proofs.Lays.n169 P ρ) (X : Go.Proofs.Builder.Extra P ρ) {F T E : Nat} (hF : ρ.f 169 = F) (hT : ρ.t 72 = T) (hE : ρ.t 5 = E) {bs : List UInt8} (h0 : bs ≠ []) (y : EV) (bk : Option Nat) :
    DoesF P F [.r 0] [(0, .box T [y, .r 1] bk), (1, .own E (bytesC bs))] (.e (.c (.lit (.string ⟨bs.toArray⟩)))) [] := by
  subst hF; subst hT; subst hE
  intro o h args w hs
  obtain ⟨b, vs, hbk0, h1, h2, h3, h4, h5⟩ := hs.res 0 (.box (ρ.t 72) [y, .r 1] bk) rfl
  have a0 : args.getD 0 undef = h 0 := hs.slot 0 (.e (.r 0)) rfl
  have hargs := argsOne (by exact hs.size) (a0.trans h1)
  subst hargs
  obtain ⟨hown, htag⟩ := bytes_vs hs (i := 1) (E := ρ.t 5) (bs := bs) rfl
  obtain ⟨u0, hu0, _, _⟩ := h5 0 _ rfl
  obtain ⟨u1, hu1, _, he1⟩ := h5 1 _ rfl
  have he1 : u1 = h 1 := he1
  subst he1
  have hvs : vs = #[u0, h 1] := by
    have hsz : vs.size = 2 := h4
    refine Array.ext_getElem? fun j => ?_
    match j with
    | 0 => rw [hu0]; rfl
    | 1 => rw [hu1]; rfl
    | j + 2 => rw [Array.getElem?_eq_none (by omega), Array.getElem?_eq_none (by simp)]
  subst hvs
  rcases hown.2 with ⟨_, hn0⟩ | ⟨g, cap, cur, hv, _, hg, hnc, hcm, hcs, htake⟩
  · exact absurd (List.length_eq_zero_iff.1 hn0) h0
  · rw [hv] at h2 hown
    have htg := htag g (by rw [hv]; rfl)
    refine (string_raw L X h0 h2 hg hnc hcm (by simpa using hcs) fun j x hx => hown.cells (g := g) rfl j _ (by rw [List.getElem?_map, hx]; rfl)).mono ?_
    rintro e w' ⟨rfl, rfl⟩
    have hoth : ∀ b', b' ≠ g → (w.drew.freeze ⟨g, 0, none⟩ bs.length).heap[b']? = w.heap[b']? := fun b' hne => by
      have hl0 : bs.length ≠ 0 := by simpa using h0
      unfold World.freeze
      rw [if_neg hl0]
      show (w.heap.modify g _)[b']? = _
      simp [Array.getElem?_modify, Ne.symm hne]
    have hsz : (w.drew.freeze ⟨g, 0, none⟩ bs.length).heap.size = w.heap.size := by
      have hl0 : bs.length ≠ 0 := by simpa using h0
      unfold World.freeze
      rw [if_neg hl0]
      show (w.heap.modify g _).size = _
      simp
    have hfz : w.drew.freeze ⟨g, 0, none⟩ bs.length = { w.drew with heap := (w.drew.freeze ⟨g, 0, none⟩ bs.length).heap } := by
      have hl0 : bs.length ≠ 0 := by simpa using h0
      unfold World.freeze
      rw [if_neg hl0]
    have hsh : ∀ b', o b' = .sh → b' ≠ g := by rintro b' hb' rfl; rw [htg] at hb'; cases hb'
    have hno : ∀ b', o b' = .no → b' ≠ g := by rintro b' hb' rfl; rw [htg] at hb'; cases hb'
    refine ⟨_, o, h, rfl, ⟨rfl, fun b' => by rw [hsz]; exact hs.tags b', fun s x hl => ?_, fun i r hl => by simp [lk] at hl⟩, ⟨by rw [hsz]; exact Nat.le_refl _, by rw [hfz]; rfl, by rw [hfz]; rfl, by rw [hfz]; rfl, by rw [hfz]; exact Drw.mono _ _ (Nat.le_succ w.drawn), fun b' hb' _ => ⟨hb', hoth b' (hsh b' hb')⟩, fun b' hb' _ => ⟨hb', hoth b' (hno b' hb')⟩⟩⟩
    rw [lk_cons] at hl
    split at hl
    · rename_i e; subst e; cases hl; exact ⟨rfl, rfl⟩
    · simp [lk] at hl
end
end Go.Sy
