/-
  strings.Builder, strconv.Itoa, split.write, Text: contracts.
-/
import Derived.Test.YtpkjbchplkfmhaaDoorTrP
import Derived.Test.YtpkjbchplkfmhaaDoorStQ
import Derived.Lib.AppendIntMem
set_option linter.unusedSectionVars false
set_option linter.unusedVariables false
set_option linter.unusedSimpArgs false
attribute [local instance] Go.Sy.drwNo
namespace Go.Proofs.YtpkjbchplkfmhaaDoor
open Go.Sy Go.Pu Go.Sort Go.Lib Go.Shelf
def powVs : List Value := Lib.pow10Tab.map fun z => Value.int .u64 z
def gloP (i T : Nat) : Nat × Res := (i, .glo 2 T powVs)
theorem itoa_does (n : Int) (hn : inK .i64 n) (T : Nat) : DoesF Tryd.prog 59 [iV n] [gloP 0 T] (.e (strV (strL (Lib.itoa n)))) [] := by
  intro o h args w hs
  have h1 : args.getD 0 undef = .int .i64 n := (show RepV o w (.lit (.int .i64 n)) _ from hs.slot 0 (sI n) rfl).1
  have hargs := args1 (by exact hs.size) h1
  subst hargs
  have hg : o 2 = .sh ∧ w.heap[2]? = some (.cells powVs.toArray T (0, 0)) := hs.res 0 (.glo 2 T powVs) rfl
  have hT : Lib.TabIs Tryd.prog w "internal/strconv.uint64pow10" .u64 Lib.pow10Tab := by
    unfold Lib.TabIs World.var?
    rw [show Tryd.prog.globalNamed "internal/strconv.uint64pow10" = some 2 by kernel_rfl]
    simp only [Option.bind_some, hg.2]; rfl
  simp only [inK] at hn
  refine (Any.strconv_Itoa layItoaT n (by omega) (by omega) w hT).mono ?_
  rintro e w' ⟨rfl, k, os, rfl⟩
  have hb := below_grow w.heap.size w (Nat.le_refl _) k os
  refine ⟨_, o, h, rfl, ⟨rfl, fun b => ⟨fun i hk => Nat.lt_of_lt_of_le ((hs.tags b).1 i hk) hb.size, fun hk => Nat.lt_of_lt_of_le ((hs.tags b).2 hk) hb.size⟩, fun s x hl => ?_, fun i r hl => by simp [lk] at hl⟩, below_ext hb⟩
  rw [lk_cons] at hl
  split at hl
  · rename_i e; subst e; cases hl; exact ⟨rfl, rfl⟩
  · simp [lk] at hl
abbrev nilP : EV := .c (.lit (.pointer none))
theorem wsF_does (bs l : List UInt8) (b : Nat) (hlen : bs.length + l.length ≤ 140737488355328) : DoesF Tryd.prog 58 [.r 0, strV (strL l)] (buR nilP (bytesC bs) b) (.tup [iV l.length, .c (.lit .nilIface)]) (buR (.r 0) (bytesC (bs ++ l)) b) := by
  refine DoesF.body _ Tryd.func58 rfl rfl rfl rfl ?_
  refine KW.go lay_ok V4_ok 100 rfl (by simp) ?_
  refine KW.call0 (checkF_does bs.length (fun e _ => CV.lit (Value.int IntKind.u8 ((bs.getD e 0).toNat : Int))) b) (enters Tryd.func62 rfl rfl) [(0, 0), (1, 1)] [(0, 0), (1, 201)] [] (.inl rfl) rfl rfl rfl rfl rfl trivial
    ⟨⟨_, _, rfl, trivial, (show Mt _ _ _ (EV.ren [(0, 0), (1, 1)] (.r 0)) (.r 0) from .same)⟩, trivial⟩ rfl ⟨rfl, rfl, trivial⟩ rfl ⟨.inr ⟨rfl, .inr ⟨_, _, _, _, b, rfl, rfl⟩⟩, .inl rfl, trivial⟩ rfl rfl (.inl rfl) ?_
  refine KW.go lay_ok V4_ok 100 rfl (by simp) ?_
  refine KW.appS (bs := bs) (s := strL l) lay_ok rfl rfl rfl rfl rfl rfl rfl rfl rfl rfl rfl rfl trivial rfl rfl trivial (by rw [strL_size]; exact hlen) ?_
  refine KW.goRetR lay_ok V4_ok 100 rfl [(0, 0), (1, 14)] rfl rfl ?_ (by simp) (by exact ⟨rfl, by rw [strL_data]; rfl, trivial⟩)
  rw [strL_size]; rfl
theorem wsU_does (bs l : List UInt8) (b : Nat) (hlen : bs.length + l.length ≤ 140737488355328) : DoesF Tryd.prog 58 [.r 0, strV (strL l)] (buR (.r 0) (bytesC bs) b) (.tup [iV l.length, .c (.lit .nilIface)]) (buR (.r 0) (bytesC (bs ++ l)) b) := by
  refine DoesF.body _ Tryd.func58 rfl rfl rfl rfl ?_
  refine KW.go lay_ok V4_ok 100 rfl (by simp) ?_
  refine KW.call0 (checkU_does bs.length (fun e _ => CV.lit (Value.int IntKind.u8 ((bs.getD e 0).toNat : Int))) b) (enters Tryd.func62 rfl rfl) [(0, 0), (1, 1)] [(0, 0), (1, 201)] [] (.inl rfl) rfl rfl rfl rfl rfl trivial
    ⟨⟨_, _, rfl, trivial, (show Mt _ _ _ (EV.ren [(0, 0), (1, 1)] (.r 0)) (.r 0) from .same)⟩, trivial⟩ rfl ⟨rfl, rfl, trivial⟩ rfl ⟨.inr ⟨rfl, .inr ⟨_, _, _, _, b, rfl, rfl⟩⟩, .inl rfl, trivial⟩ rfl rfl (.inl rfl) ?_
  refine KW.go lay_ok V4_ok 100 rfl (by simp) ?_
  refine KW.appS (bs := bs) (s := strL l) lay_ok rfl rfl rfl rfl rfl rfl rfl rfl rfl rfl rfl rfl trivial rfl rfl trivial (by rw [strL_size]; exact hlen) ?_
  refine KW.goRetR lay_ok V4_ok 100 rfl [(0, 0), (1, 14)] rfl rfl ?_ (by simp) (by exact ⟨rfl, by rw [strL_data]; rfl, trivial⟩)
  rw [strL_size]; rfl
def buG (p : EV) (X : CV) (b T : Nat) : List (Nat × Res) := [(0, .box 93 [p, .r 1] (some b)), (1, .own 5 X), gloP 2 T]
set_option maxHeartbeats 1600000 in
theorem writeU_does (T : Nat) (t : Tr) : gT t → t.In → ∀ (bs : List UInt8) (b : Nat), (bs.length : Int) + 30 * cntN t ≤ 1000000 → DoesF Tryd.prog 47 [.r 0, trV t] (buG (.r 0) (bytesC bs) b T) (.tup []) (buR (.r 0) (bytesC (bs ++ showT t)) b) := by
  induction t using Tr.ind with
  | h t ih =>
    have ihU : ∀ t' : Tr, (∃ i, i < t.n ∧ t' = t.k i) → gT t' → t'.In → ∀ (bs : List UInt8) (b : Nat), (bs.length : Int) + 30 * cntN t' ≤ 1000000 → DoesF Tryd.prog 47 [.r 0, trV t'] (buG (.r 0) (bytesC bs) b T) (.tup []) (buR (.r 0) (bytesC (bs ++ showT t')) b) := fun t' h => by
      obtain ⟨i, hi, rfl⟩ := h
      exact ih i hi
    intro hg hin bs b hlen
    obtain ⟨iv, ir, ik⟩ := (Tr.in_iff t).1 hin
    simp only [inK] at iv ir
    refine DoesF.body _ Tryd.func47 rfl rfl rfl rfl ?_
    refine KW.open 1 t rfl ?_
    refine KW.goIf lay_ok V4_ok 100 rfl (by simp) rfl trivial (fun h => ?_) fun h => ?_
    · have h0 : t.n = 0 := by simpa using h
      have hl := itoa_size (n := t.r) (by omega) (by omega)
      have pc := cntN_pos t
      rw [showT_eq, if_neg (by omega)]
      refine KW.go lay_ok V4_ok 100 rfl (by simp) ?_
      refine KW.dupG 2 300 rfl ?_
      refine KW.call0 (itoa_does t.r (by simp only [inK]; omega) T) (enters Tryd.func59 rfl rfl) [(0, 300)] [] [] (.inl rfl) rfl rfl rfl rfl rfl trivial ⟨⟨_, _, rfl, trivial, .conv (CVEq.refl _)⟩, trivial⟩ rfl ⟨rfl, trivial⟩ rfl trivial rfl rfl (.inl rfl) ?_
      refine KW.go lay_ok V4_ok 100 rfl (by simp) ?_
      refine KW.call0 (wsU_does bs (Lib.itoa t.r) b (by omega)) (enters Tryd.func58 rfl rfl) [(0, 0), (1, 1)] [(0, 0), (1, 201)] [] (.inl rfl) rfl rfl rfl rfl rfl trivial
        ⟨⟨_, _, rfl, trivial, (show Mt _ _ _ (EV.ren [(0, 0), (1, 1)] (.r 0)) (.r 0) from .same)⟩, ⟨_, _, rfl, trivial, .conv (CVEq.refl _)⟩, trivial⟩ rfl ⟨rfl, rfl, trivial⟩ rfl ⟨.inr ⟨rfl, .inr ⟨_, _, _, _, b, rfl, rfl⟩⟩, .inl rfl, trivial⟩ rfl rfl (.inl rfl) ?_
      exact KW.goRetR lay_ok V4_ok 100 rfl [(0, 0), (1, 201)] rfl rfl rfl (by simp) (by exact ⟨rfl, rfl, trivial⟩)
    · have h0 : t.n ≠ 0 := by simpa using h
      obtain ⟨h2, _, _, _, g0, g1⟩ := gT_kids hg h0
      have hl := itoa_size (n := t.v) (by omega) (by omega)
      have p0 := cntN_pos (t.k 0)
      have p1 := cntN_pos (t.k 1)
      have s0 := showT_size (t.k 0) g0 (ik 0 (by omega))
      have s1 := showT_size (t.k 1) g1 (ik 1 (by omega))
      have cc := cntN_eq t
      rw [if_pos h2] at cc
      rw [showT_eq, if_pos h2]
      refine KW.go lay_ok V4_ok 100 rfl (by simp) ?_
      refine KW.dupG 2 300 rfl ?_
      refine KW.call0 (itoa_does t.v (by simp only [inK]; omega) T) (enters Tryd.func59 rfl rfl) [(0, 300)] [] [] (.inl rfl) rfl rfl rfl rfl rfl trivial ⟨⟨_, _, rfl, trivial, .conv (CVEq.refl _)⟩, trivial⟩ rfl ⟨rfl, trivial⟩ rfl trivial rfl rfl (.inl rfl) ?_
      refine KW.go lay_ok V4_ok 100 rfl (by simp [show (⟨#[91]⟩ : ByteArray).size = 1 from rfl, show (⟨#[32]⟩ : ByteArray).size = 1 from rfl]; omega) ?_
      refine KW.call0 (wsU_does bs (91 :: (Lib.itoa t.v ++ [32])) b (by simp only [List.length_append, List.length_cons, List.length_nil]; omega)) (enters Tryd.func58 rfl rfl) [(0, 0), (1, 1)] [(0, 0), (1, 201)] [] (.inl rfl) rfl rfl rfl rfl rfl trivial
        ⟨⟨_, _, rfl, trivial, (show Mt _ _ _ (EV.ren [(0, 0), (1, 1)] (.r 0)) (.r 0) from .same)⟩, ⟨_, _, rfl, trivial, .conv (show Value.string ((strL [91] ++ strL (Lib.itoa t.v)) ++ strL [32]) = Value.string _ by rw [strL_append, strL_append]; simp)⟩, trivial⟩ rfl ⟨rfl, rfl, trivial⟩ rfl ⟨.inr ⟨rfl, .inr ⟨_, _, _, _, b, rfl, rfl⟩⟩, .inl rfl, trivial⟩ rfl rfl (.inl rfl) ?_
      refine KW.go lay_ok V4_ok 100 rfl (by simp; omega) ?_
      refine KW.dupG 2 300 rfl ?_
      refine KW.call0 (ihU (t.k 0) ⟨0, by omega, rfl⟩ g0 (ik 0 (by omega)) (bs ++ (91 :: (Lib.itoa t.v ++ [32]))) b (by simp only [List.length_append, List.length_cons, List.length_nil, Int.natCast_add, Int.natCast_one]; omega)) (enters Tryd.func47 rfl rfl) [(0, 0), (1, 201), (2, 300)] [(0, 0), (1, 202)] [] (.inl rfl) rfl rfl rfl rfl rfl trivial
        ⟨⟨_, _, rfl, trivial, (show Mt _ _ _ (EV.ren [(0, 0), (1, 201), (2, 300)] (.r 0)) (.r 0) from .same)⟩, ⟨_, _, rfl, trivial, (show Mt _ _ _ (EV.ren [(0, 0), (1, 201), (2, 300)] (trV (t.k 0))) (trV (t.k 0)) from .same)⟩, trivial⟩ rfl ⟨rfl, rfl, rfl, trivial⟩ rfl ⟨.inr ⟨rfl, .inr ⟨_, _, _, _, b, rfl, rfl⟩⟩, .inl rfl, trivial⟩ rfl rfl (.inl rfl) ?_
      refine KW.go lay_ok V4_ok 100 rfl (by simp) ?_
      refine KW.call0 (wsU_does ((bs ++ (91 :: (Lib.itoa t.v ++ [32]))) ++ showT (t.k 0)) [32] b (by simp only [List.length_append, List.length_cons, List.length_nil]; omega)) (enters Tryd.func58 rfl rfl) [(0, 0), (1, 202)] [(0, 0), (1, 203)] [] (.inl rfl) rfl rfl rfl rfl rfl trivial
        ⟨⟨_, _, rfl, trivial, (show Mt _ _ _ (EV.ren [(0, 0), (1, 202)] (.r 0)) (.r 0) from .same)⟩, ⟨_, _, rfl, trivial, .conv (CVEq.refl _)⟩, trivial⟩ rfl ⟨rfl, rfl, trivial⟩ rfl ⟨.inr ⟨rfl, .inr ⟨_, _, _, _, b, rfl, rfl⟩⟩, .inl rfl, trivial⟩ rfl rfl (.inl rfl) ?_
      refine KW.go lay_ok V4_ok 100 rfl (by simp; omega) ?_
      refine KW.dupG 2 300 rfl ?_
      refine KW.call0 (ihU (t.k 1) ⟨1, by omega, rfl⟩ g1 (ik 1 (by omega)) (((bs ++ (91 :: (Lib.itoa t.v ++ [32]))) ++ showT (t.k 0)) ++ [32]) b (by simp only [List.length_append, List.length_cons, List.length_nil, Int.natCast_add, Int.natCast_one]; omega)) (enters Tryd.func47 rfl rfl) [(0, 0), (1, 203), (2, 300)] [(0, 0), (1, 204)] [] (.inl rfl) rfl rfl rfl rfl rfl trivial
        ⟨⟨_, _, rfl, trivial, (show Mt _ _ _ (EV.ren [(0, 0), (1, 203), (2, 300)] (.r 0)) (.r 0) from .same)⟩, ⟨_, _, rfl, trivial, (show Mt _ _ _ (EV.ren [(0, 0), (1, 203), (2, 300)] (trV (t.k 1))) (trV (t.k 1)) from .same)⟩, trivial⟩ rfl ⟨rfl, rfl, rfl, trivial⟩ rfl ⟨.inr ⟨rfl, .inr ⟨_, _, _, _, b, rfl, rfl⟩⟩, .inl rfl, trivial⟩ rfl rfl (.inl rfl) ?_
      refine KW.go lay_ok V4_ok 100 rfl (by simp) ?_
      refine KW.call0 (wsU_does ((((bs ++ (91 :: (Lib.itoa t.v ++ [32]))) ++ showT (t.k 0)) ++ [32]) ++ showT (t.k 1)) [93] b (by simp only [List.length_append, List.length_cons, List.length_nil]; omega)) (enters Tryd.func58 rfl rfl) [(0, 0), (1, 204)] [(0, 0), (1, 205)] [] (.inl rfl) rfl rfl rfl rfl rfl trivial
        ⟨⟨_, _, rfl, trivial, (show Mt _ _ _ (EV.ren [(0, 0), (1, 204)] (.r 0)) (.r 0) from .same)⟩, ⟨_, _, rfl, trivial, .conv (CVEq.refl _)⟩, trivial⟩ rfl ⟨rfl, rfl, trivial⟩ rfl ⟨.inr ⟨rfl, .inr ⟨_, _, _, _, b, rfl, rfl⟩⟩, .inl rfl, trivial⟩ rfl rfl (.inl rfl) ?_
      refine KW.go lay_ok V4_ok 100 rfl (by simp) ?_
      exact KW.finN [(0, 0), (1, 205)] rfl rfl rfl (by exact ⟨rfl, by simp only [List.append_assoc, List.cons_append, List.nil_append]; rfl, trivial⟩)
set_option maxHeartbeats 1600000 in
theorem writeF_does (T : Nat) (t : Tr) : gT t → t.In → ∀ (bs : List UInt8) (b : Nat), (bs.length : Int) + 30 * cntN t ≤ 1000000 → DoesF Tryd.prog 47 [.r 0, trV t] (buG nilP (bytesC bs) b T) (.tup []) (buR (.r 0) (bytesC (bs ++ showT t)) b) := by
  intro hg hin bs b hlen
  obtain ⟨iv, ir, ik⟩ := (Tr.in_iff t).1 hin
  simp only [inK] at iv ir
  refine DoesF.body _ Tryd.func47 rfl rfl rfl rfl ?_
  refine KW.open 1 t rfl ?_
  refine KW.goIf lay_ok V4_ok 100 rfl (by simp) rfl trivial (fun h => ?_) fun h => ?_
  · have h0 : t.n = 0 := by simpa using h
    have hl := itoa_size (n := t.r) (by omega) (by omega)
    have pc := cntN_pos t
    rw [showT_eq, if_neg (by omega)]
    refine KW.go lay_ok V4_ok 100 rfl (by simp) ?_
    refine KW.dupG 2 300 rfl ?_
    refine KW.call0 (itoa_does t.r (by simp only [inK]; omega) T) (enters Tryd.func59 rfl rfl) [(0, 300)] [] [] (.inl rfl) rfl rfl rfl rfl rfl trivial ⟨⟨_, _, rfl, trivial, .conv (CVEq.refl _)⟩, trivial⟩ rfl ⟨rfl, trivial⟩ rfl trivial rfl rfl (.inl rfl) ?_
    refine KW.go lay_ok V4_ok 100 rfl (by simp) ?_
    refine KW.call0 (wsF_does bs (Lib.itoa t.r) b (by omega)) (enters Tryd.func58 rfl rfl) [(0, 0), (1, 1)] [(0, 0), (1, 201)] [] (.inl rfl) rfl rfl rfl rfl rfl trivial
      ⟨⟨_, _, rfl, trivial, (show Mt _ _ _ (EV.ren [(0, 0), (1, 1)] (.r 0)) (.r 0) from .same)⟩, ⟨_, _, rfl, trivial, .conv (CVEq.refl _)⟩, trivial⟩ rfl ⟨rfl, rfl, trivial⟩ rfl ⟨.inr ⟨rfl, .inr ⟨_, _, _, _, b, rfl, rfl⟩⟩, .inl rfl, trivial⟩ rfl rfl (.inl rfl) ?_
    exact KW.goRetR lay_ok V4_ok 100 rfl [(0, 0), (1, 201)] rfl rfl rfl (by simp) (by exact ⟨rfl, rfl, trivial⟩)
  · have h0 : t.n ≠ 0 := by simpa using h
    obtain ⟨h2, _, _, _, g0, g1⟩ := gT_kids hg h0
    have hl := itoa_size (n := t.v) (by omega) (by omega)
    have p0 := cntN_pos (t.k 0)
    have p1 := cntN_pos (t.k 1)
    have s0 := showT_size (t.k 0) g0 (ik 0 (by omega))
    have s1 := showT_size (t.k 1) g1 (ik 1 (by omega))
    have cc := cntN_eq t
    rw [if_pos h2] at cc
    rw [showT_eq, if_pos h2]
    refine KW.go lay_ok V4_ok 100 rfl (by simp) ?_
    refine KW.dupG 2 300 rfl ?_
    refine KW.call0 (itoa_does t.v (by simp only [inK]; omega) T) (enters Tryd.func59 rfl rfl) [(0, 300)] [] [] (.inl rfl) rfl rfl rfl rfl rfl trivial ⟨⟨_, _, rfl, trivial, .conv (CVEq.refl _)⟩, trivial⟩ rfl ⟨rfl, trivial⟩ rfl trivial rfl rfl (.inl rfl) ?_
    refine KW.go lay_ok V4_ok 100 rfl (by simp [show (⟨#[91]⟩ : ByteArray).size = 1 from rfl, show (⟨#[32]⟩ : ByteArray).size = 1 from rfl]; omega) ?_
    refine KW.call0 (wsF_does bs (91 :: (Lib.itoa t.v ++ [32])) b (by simp only [List.length_append, List.length_cons, List.length_nil]; omega)) (enters Tryd.func58 rfl rfl) [(0, 0), (1, 1)] [(0, 0), (1, 201)] [] (.inl rfl) rfl rfl rfl rfl rfl trivial
      ⟨⟨_, _, rfl, trivial, (show Mt _ _ _ (EV.ren [(0, 0), (1, 1)] (.r 0)) (.r 0) from .same)⟩, ⟨_, _, rfl, trivial, .conv (show Value.string ((strL [91] ++ strL (Lib.itoa t.v)) ++ strL [32]) = Value.string _ by rw [strL_append, strL_append]; simp)⟩, trivial⟩ rfl ⟨rfl, rfl, trivial⟩ rfl ⟨.inr ⟨rfl, .inr ⟨_, _, _, _, b, rfl, rfl⟩⟩, .inl rfl, trivial⟩ rfl rfl (.inl rfl) ?_
    refine KW.go lay_ok V4_ok 100 rfl (by simp; omega) ?_
    refine KW.dupG 2 300 rfl ?_
    refine KW.call0 (writeU_does T (t.k 0) g0 (ik 0 (by omega)) (bs ++ (91 :: (Lib.itoa t.v ++ [32]))) b (by simp only [List.length_append, List.length_cons, List.length_nil, Int.natCast_add, Int.natCast_one]; omega)) (enters Tryd.func47 rfl rfl) [(0, 0), (1, 201), (2, 300)] [(0, 0), (1, 202)] [] (.inl rfl) rfl rfl rfl rfl rfl trivial
      ⟨⟨_, _, rfl, trivial, (show Mt _ _ _ (EV.ren [(0, 0), (1, 201), (2, 300)] (.r 0)) (.r 0) from .same)⟩, ⟨_, _, rfl, trivial, (show Mt _ _ _ (EV.ren [(0, 0), (1, 201), (2, 300)] (trV (t.k 0))) (trV (t.k 0)) from .same)⟩, trivial⟩ rfl ⟨rfl, rfl, rfl, trivial⟩ rfl ⟨.inr ⟨rfl, .inr ⟨_, _, _, _, b, rfl, rfl⟩⟩, .inl rfl, trivial⟩ rfl rfl (.inl rfl) ?_
    refine KW.go lay_ok V4_ok 100 rfl (by simp) ?_
    refine KW.call0 (wsU_does ((bs ++ (91 :: (Lib.itoa t.v ++ [32]))) ++ showT (t.k 0)) [32] b (by simp only [List.length_append, List.length_cons, List.length_nil]; omega)) (enters Tryd.func58 rfl rfl) [(0, 0), (1, 202)] [(0, 0), (1, 203)] [] (.inl rfl) rfl rfl rfl rfl rfl trivial
      ⟨⟨_, _, rfl, trivial, (show Mt _ _ _ (EV.ren [(0, 0), (1, 202)] (.r 0)) (.r 0) from .same)⟩, ⟨_, _, rfl, trivial, .conv (CVEq.refl _)⟩, trivial⟩ rfl ⟨rfl, rfl, trivial⟩ rfl ⟨.inr ⟨rfl, .inr ⟨_, _, _, _, b, rfl, rfl⟩⟩, .inl rfl, trivial⟩ rfl rfl (.inl rfl) ?_
    refine KW.go lay_ok V4_ok 100 rfl (by simp; omega) ?_
    refine KW.dupG 2 300 rfl ?_
    refine KW.call0 (writeU_does T (t.k 1) g1 (ik 1 (by omega)) (((bs ++ (91 :: (Lib.itoa t.v ++ [32]))) ++ showT (t.k 0)) ++ [32]) b (by simp only [List.length_append, List.length_cons, List.length_nil, Int.natCast_add, Int.natCast_one]; omega)) (enters Tryd.func47 rfl rfl) [(0, 0), (1, 203), (2, 300)] [(0, 0), (1, 204)] [] (.inl rfl) rfl rfl rfl rfl rfl trivial
      ⟨⟨_, _, rfl, trivial, (show Mt _ _ _ (EV.ren [(0, 0), (1, 203), (2, 300)] (.r 0)) (.r 0) from .same)⟩, ⟨_, _, rfl, trivial, (show Mt _ _ _ (EV.ren [(0, 0), (1, 203), (2, 300)] (trV (t.k 1))) (trV (t.k 1)) from .same)⟩, trivial⟩ rfl ⟨rfl, rfl, rfl, trivial⟩ rfl ⟨.inr ⟨rfl, .inr ⟨_, _, _, _, b, rfl, rfl⟩⟩, .inl rfl, trivial⟩ rfl rfl (.inl rfl) ?_
    refine KW.go lay_ok V4_ok 100 rfl (by simp) ?_
    refine KW.call0 (wsU_does ((((bs ++ (91 :: (Lib.itoa t.v ++ [32]))) ++ showT (t.k 0)) ++ [32]) ++ showT (t.k 1)) [93] b (by simp only [List.length_append, List.length_cons, List.length_nil]; omega)) (enters Tryd.func58 rfl rfl) [(0, 0), (1, 204)] [(0, 0), (1, 205)] [] (.inl rfl) rfl rfl rfl rfl rfl trivial
      ⟨⟨_, _, rfl, trivial, (show Mt _ _ _ (EV.ren [(0, 0), (1, 204)] (.r 0)) (.r 0) from .same)⟩, ⟨_, _, rfl, trivial, .conv (CVEq.refl _)⟩, trivial⟩ rfl ⟨rfl, rfl, trivial⟩ rfl ⟨.inr ⟨rfl, .inr ⟨_, _, _, _, b, rfl, rfl⟩⟩, .inl rfl, trivial⟩ rfl rfl (.inl rfl) ?_
    refine KW.go lay_ok V4_ok 100 rfl (by simp) ?_
    exact KW.finN [(0, 0), (1, 205)] rfl rfl rfl (by exact ⟨rfl, by simp only [List.append_assoc, List.cons_append, List.nil_append]; rfl, trivial⟩)
def textL (t : Tr) (vars : Int) : List UInt8 := if splE t vars = 0 then showT t else []
theorem text_does (t : Tr) (hin : t.In) (vars : Int) (T : Nat) : DoesF Tryd.prog 26 [trV t, iV vars] [gloP 0 T] (.tup [strV (strL (textL t vars)), eV (splE t vars)]) [] := by
  refine DoesF.body _ Tryd.func26 rfl rfl rfl rfl ?_
  refine KW.goIf lay_ok V4_ok 100 rfl (by simp) rfl trivial (fun h => ?_) fun h => ?_
  · have h0 : splE t vars ≠ 0 := by simpa using h
    refine KW.goRet lay_ok V4_ok 100 rfl rfl ?_ (by simp) trivial
    simp only [textL, if_neg h0, unTr_cells]; rfl
  · have h0 : splE t vars = 0 := by simpa using h
    obtain ⟨hg, hc⟩ := splE_g h0
    have hl := showT_len t
    have e : textL t vars = showT t := by rw [textL, if_pos h0]
    rw [e, h0]
    refine KW.go lay_ok V4_ok 100 rfl (by simp) ?_
    refine KW.name 7 rfl fun b => ?_
    refine KW.nilB 7 1 200 5 (bytesC []) rfl rfl rfl rfl rfl ?_
    refine KW.call0 (writeF_does T t hg hin [] b (by simp only [List.length_nil]; omega)) (enters Tryd.func47 rfl rfl) [(0, 7), (1, 200), (2, 0)] [(0, 7), (1, 201)] [] (.inl rfl) rfl rfl rfl rfl rfl trivial
      ⟨⟨_, _, rfl, trivial, (show Mt _ _ _ (EV.ren [(0, 7), (1, 200), (2, 0)] (.r 0)) (.r 0) from .same)⟩, ⟨_, _, rfl, trivial, (show Mt _ _ _ (EV.ren [(0, 7), (1, 200), (2, 0)] (trV t)) (trV t) from .same)⟩, trivial⟩ rfl ⟨rfl, rfl, rfl, trivial⟩ rfl ⟨.inr ⟨rfl, .inr ⟨_, _, _, _, b, rfl, rfl⟩⟩, .inl rfl, trivial⟩ rfl rfl (.inl rfl) ?_
    rw [List.nil_append]
    refine KW.go lay_ok V4_ok 100 rfl (by simp) ?_
    refine KW.call0 (string_does layString extraString rfl rfl rfl (bs := showT t) (fun e => by rw [e] at hl; exact absurd hl (by decide)) (.r 0) (some b)) (enters Tryd.func48 rfl rfl) [(0, 7), (1, 201)] [] [] (.inl rfl) rfl rfl rfl rfl rfl trivial
      ⟨⟨_, _, rfl, trivial, (show Mt _ _ _ (EV.ren [(0, 7), (1, 201)] (.r 0)) (.r 0) from .same)⟩, trivial⟩ rfl ⟨rfl, rfl, trivial⟩ rfl trivial rfl rfl (.inl rfl) ?_
    exact KW.goRet lay_ok V4_ok 100 rfl rfl rfl (by simp) trivial
end Go.Proofs.YtpkjbchplkfmhaaDoor
