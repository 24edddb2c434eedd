/-
  PuT, PuU, one text.
-/
import Derived.Test.YtpjhpcclbenfbaaPuR
set_option linter.unusedVariables false
set_option linter.unusedSimpArgs false
/-
  WHAT LIES BELOW A FORMULA'S TOP, AND THE FORMULA WITHOUT THE REST. No program is named here.
-/
namespace Go.Pu
open Go.Sy
/-- what lies below the top -/
def belowF (f : FormP) : List Bool := marksF f fun _ _ => true
theorem belowF_length (f : FormP) : (belowF f).length = f.vars.toNat + f.nodes.length := marksF_length _ _
/-- the kept nodes, and where each went -/
def trimN (n : Nat) (ns : List NodeP) (m : List Bool) : Nat → List Int × List NodeP
  | 0 => ((List.range (n + ns.length)).map fun i => if i < n then (i : Int) else 0, [])
  | i + 1 => if m.getD (n + i) false = true then ((trimN n ns m i).1.set (n + i) ((n : Int) + ((trimN n ns m i).2.length : Int)), (trimN n ns m i).2 ++ [⟨(ns.getD i node0).kind, (ns.getD i node0).k, (ns.getD i node0).args.map fun a => (trimN n ns m i).1.getD a.toNat 0⟩])
    else trimN n ns m i
theorem trimN_succ (n : Nat) (ns : List NodeP) (m : List Bool) (i : Nat) : trimN n ns m (i + 1) = if m.getD (n + i) false = true then ((trimN n ns m i).1.set (n + i) ((n : Int) + ((trimN n ns m i).2.length : Int)), (trimN n ns m i).2 ++ [⟨(ns.getD i node0).kind, (ns.getD i node0).k, (ns.getD i node0).args.map fun a => (trimN n ns m i).1.getD a.toNat 0⟩])
    else trimN n ns m i := rfl
theorem trimN_len (n : Nat) (ns : List NodeP) (m : List Bool) : ∀ i, (trimN n ns m i).1.length = n + ns.length ∧ (trimN n ns m i).2.length ≤ i
  | 0 => ⟨by simp [trimN], by simp [trimN]⟩
  | i + 1 => by
    have := trimN_len n ns m i
    unfold trimN
    split
    · simp; omega
    · exact ⟨this.1, by omega⟩
theorem trimN_kinds (n : Nat) (ns : List NodeP) (m : List Bool) : ∀ i, (trimN n ns m i).2.map NodeP.kind = ((List.range i).filter fun j => m.getD (n + j) false).map fun j => (ns.getD j node0).kind
  | 0 => rfl
  | i + 1 => by
    unfold trimN
    rw [List.range_succ, List.filter_append, List.map_append, ← trimN_kinds n ns m i]
    split
    · rename_i h; simp [h, -List.getD_eq_getElem?_getD]
    · rename_i h
      have : m.getD (n + i) false = false := by simpa using h
      simp [this, -List.getD_eq_getElem?_getD]
def trimF (f : FormP) : FormP := ⟨f.vars, (trimN f.vars.toNat f.nodes (belowF f) f.nodes.length).2, (trimN f.vars.toNat f.nodes (belowF f) f.nodes.length).1.getD f.top.toNat 0⟩
/-- no node below the top says how many, or not -/
def cohF (f : FormP) : Bool := (List.range f.nodes.length).all fun i => !((belowF f).getD (f.vars.toNat + i) false && ((f.nodes.getD i node0).kind == 1 || (f.nodes.getD i node0).kind == 5))
theorem cohF_trim (f : FormP) : cohF f = (trimF f).nodes.all fun x => !(x.kind == 1 || x.kind == 5) := by
  have e : (trimF f).nodes.map NodeP.kind = _ := trimN_kinds f.vars.toNat f.nodes (belowF f) f.nodes.length
  have e2 : ((trimF f).nodes.all fun x => !(x.kind == 1 || x.kind == 5)) = ((trimF f).nodes.map NodeP.kind).all fun k => !(k == 1 || k == 5) := by rw [List.all_map]; rfl
  rw [e2, e, List.all_map, List.all_filter, cohF]
  congr 1
  funext i
  simp only [Function.comp_apply]
  cases (belowF f).getD (f.vars.toNat + i) false <;> simp
end Go.Pu

/-
  COHERENT FORMULAS: their values rise with the state; what is minimal. No program is named here.
-/
namespace Go.Pu
open Go.Sy
theorem nodeV_mono {X : NodeP} (hk : 0 ≤ X.kind ∧ X.kind ≤ 5) (h1 : ¬ X.kind = 1) (h5 : ¬ X.kind = 5) {c d : Int} (hcd : c ≤ d) (hd : d ≤ X.args.length) (h : nodeV X c = true) : nodeV X d = true := by
  have : X.kind = 0 ∨ X.kind = 2 ∨ X.kind = 3 ∨ X.kind = 4 := by omega
  unfold nodeV at h ⊢
  rcases this with hc | hc | hc | hc <;> simp only [hc, Int.reduceEq, if_true, if_false, decide_eq_true_eq] at h ⊢ <;> omega
theorem coh_node {f : FormP} (hc : cohF f = true) {q : Nat} (hq : q < f.nodes.length) (hm : (belowF f).getD (f.vars.toNat + q) false = true) : ¬ f.nodes[q].kind = 1 ∧ ¬ f.nodes[q].kind = 5 := by
  unfold cohF at hc
  rw [List.all_eq_true] at hc
  have := hc q (by simpa using hq)
  rw [hm, List.getD_eq_getElem?_getD, List.getElem?_eq_getElem hq] at this
  simpa using this
theorem value_mono {f : FormP} (ok : FormOk f) (hc : cohF f = true) {x y : Int} (h : ∀ i, i < f.vars.toNat → bit x i = true → bit y i = true) (hv : valueF f x = true) : valueF f y = true := by
  have key : ∀ j, j < f.vars.toNat + f.nodes.length → (belowF f).getD j false = true → (valsF f x).getD j false = true → (valsF f y).getD j false = true := by
    intro j
    induction j using Nat.strongRecOn with
    | ind j ih =>
      intro hj hm hx
      by_cases hjn : j < f.vars.toNat
      · rw [valsF_event f x hjn] at hx
        rw [valsF_event f y hjn]
        exact h j hjn hx
      · obtain ⟨q, rfl⟩ : ∃ q, j = f.vars.toNat + q := ⟨j - f.vars.toNat, by omega⟩
        have hq : q < f.nodes.length := by omega
        rw [valsF_node ok x hq] at hx
        rw [valsF_node ok y hq]
        obtain ⟨k1, k5⟩ := coh_node hc hq hm
        refine nodeV_mono (ok.nodes q hq).kind k1 k5 (cntT_mono fun a ha hax => ?_) (cntT_rng _ _).2 hx
        have hlt := ok.args_lt q hq a ha
        exact ih a.toNat hlt (by omega) (marksF_closed ok (fun _ _ => true) hq hm ha rfl) hax
  have h1 := ok.top
  have h2 := ok.vars
  exact key f.top.toNat (by omega) (marksF_top ok _) hv

section
variable {f : FormP} {n : Nat} {s T : Int}
theorem okV_true (ok : FormOk f) (hc : cohF f = true) (hn : f.vars = n) (hs : inN n s) (hT : inN n T) (hv : valueF f s = true) (hp : Part T s) : okV f n s T = valueF f T := by
  have hn24 : n ≤ 24 := by have := ok.vars; omega
  rw [Bool.eq_iff_iff, okV_iff hn24 hs]
  constructor
  · intro h
    rw [h T hT ?_, hv]
    rw [iand_zero']
    intro i hi
    rw [bit_ixor]
    cases hb : bit T i with
    | false => simp
    | true => rw [hp i hb]; rfl
  · intro h x hx hag
    rw [hv]
    refine value_mono ok hc (fun i hi hb => ?_) h
    have := iand_zero'.1 hag i (by rw [hn] at hi; simp at hi; omega)
    rw [bit_ixor, hb, hp i hb] at this
    simpa using this
theorem okV_false (ok : FormOk f) (hc : cohF f = true) (hn : f.vars = n) (hs : inN n s) (hT : inN n T) (hv : valueF f s = false) (hp : ∀ i, bit T i = true → bit s i = false) : okV f n s T = !valueF f (iandNot .i64 (allN n) T) := by
  have hn24 : n ≤ 24 := by have := ok.vars; omega
  have hx0 : inN n (iandNot .i64 (allN n) T) := inN_iandNot hn24 (inN_allN hn24)
  have hrev : okV f n s T = true ↔ valueF f (iandNot .i64 (allN n) T) = false := by
    rw [okV_iff hn24 hs]
    constructor
    · intro h
      rw [h _ hx0 ?_, hv]
      rw [iand_zero']
      intro i hi
      rw [bit_ixor, bit_iandNot']
      cases hb : bit T i with
      | false => simp
      | true => rw [hp i hb]; simp
    · intro h x hx hag
      rw [hv]
      cases hvx : valueF f x with
      | false => rfl
      | true =>
        rw [value_mono ok hc (fun i hi hb => ?_) hvx] at h
        · exact h
        · have hi' : i < n := by rw [hn] at hi; simpa using hi
          have := iand_zero'.1 hag i (by omega)
          rw [bit_iandNot', bit_allN hn24, decide_eq_true hi', Bool.true_and]
          cases hbT : bit T i with
          | false => rfl
          | true => rw [bit_ixor, hb, hbT, hp i hbT] at this; simp at this
  cases h1 : okV f n s T <;> cases h2 : valueF f (iandNot .i64 (allN n) T) <;> simp_all
theorem minK_sub (ok : FormOk f) (hc : cohF f = true) (hn : f.vars = n) (hs : inN n s) (hT : inN n T) (hv : valueF f s = true) (hm : minK (okV f n s) T n = true) : Part T s := by
  have hn24 : n ≤ 24 := by have := ok.vars; omega
  intro i hb
  have hi : i < n := Nat.lt_of_not_le fun h => by rw [hT.2 i h] at hb; cases hb
  cases hsb : bit s i with
  | true => rfl
  | false =>
    exfalso
    obtain ⟨h1, h2⟩ := minK_iff.1 hm
    have h3 := h2 i hi hb
    have h4 : okV f n s (iandNot .i64 T (one i)) = true := by
      rw [okV_iff hn24 hs] at h1 ⊢
      intro x hx hag
      have hx' := inN_iandNot (y := one i) hn24 hx
      have e := h1 _ hx' ?_
      · rw [hv] at e ⊢
        refine value_mono ok hc (fun j hj hbj => ?_) e
        rw [bit_iandNot', Bool.and_eq_true] at hbj
        exact hbj.1
      · rw [iand_zero'] at hag ⊢
        intro j hj
        have := hag j hj
        simp only [bit_ixor, bit_iandNot', one_bit (show i < 24 by omega)] at this ⊢
        by_cases hij : i = j
        · subst hij; simp [hsb]
        · simpa [hij] using this
    rw [h3] at h4; cases h4
theorem minK_dis (ok : FormOk f) (hc : cohF f = true) (hn : f.vars = n) (hs : inN n s) (hT : inN n T) (hv : valueF f s = false) (hm : minK (okV f n s) T n = true) : ∀ i, bit T i = true → bit s i = false := by
  have hn24 : n ≤ 24 := by have := ok.vars; omega
  intro i hb
  have hi : i < n := Nat.lt_of_not_le fun h => by rw [hT.2 i h] at hb; cases hb
  cases hsb : bit s i with
  | false => rfl
  | true =>
    exfalso
    obtain ⟨h1, h2⟩ := minK_iff.1 hm
    have h3 := h2 i hi hb
    have hone : inN n (one i) := inN_of hn24 (validS_rng (one_valid (by omega))) fun j hj => by rw [one_bit (by omega)]; simp; omega
    have h4 : okV f n s (iandNot .i64 T (one i)) = true := by
      rw [okV_iff hn24 hs] at h1 ⊢
      intro x hx hag
      have hx' := inN_ior hn24 hx hone
      have e := h1 _ hx' ?_
      · rw [hv] at e ⊢
        cases hvx : valueF f x with
        | false => rfl
        | true =>
          rw [value_mono ok hc (fun j hj hbj => ?_) hvx] at e
          · exact e
          · rw [bit_ior, hbj]; rfl
      · rw [iand_zero'] at hag ⊢
        intro j hj
        have := hag j hj
        simp only [bit_ixor, bit_iandNot', bit_ior, one_bit (show i < 24 by omega)] at this ⊢
        by_cases hij : i = j
        · subst hij; simp [hsb]
        · simpa [hij] using this
    rw [h3] at h4; cases h4
end
/-! how often a set is named -/
theorem count_one {α : Type} [DecidableEq α] {p : α → Bool} {a : α} : ∀ {l : List α}, l.Nodup → (∀ c ∈ l, p c = true ↔ c = a) → (l.filter p).length = if a ∈ l then 1 else 0
  | [], _, _ => by simp
  | c :: l, hd, h => by
    have hd' := List.nodup_cons.1 hd
    have ih := count_one hd'.2 fun c' hc' => h c' (.tail _ hc')
    have hc := h c (.head _)
    rw [List.filter_cons]
    by_cases hpc : p c = true
    · have e := hc.1 hpc
      subst e
      rw [if_pos hpc, if_pos (.head _), List.length_cons, ih, if_neg hd'.1]
    · rw [if_neg hpc, ih]
      have hne : ¬ c = a := fun e => hpc (hc.2 e)
      simp [Ne.symm hne]
end Go.Pu
