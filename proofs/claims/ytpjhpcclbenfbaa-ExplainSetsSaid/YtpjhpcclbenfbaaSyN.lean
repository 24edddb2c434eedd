/-
  SYMBOLIC STATES, PART N: calls of functions by what they do.
-/
import Derived.Test.YtpjhpcclbenfbaaSyM
set_option linter.unusedVariables false
set_option linter.unusedSimpArgs false
namespace Go.Sy

def FlatC : CV → Prop
  | .lit _ => True
  | _ => False
def EvFlat : EV → Prop
  | .c x => FlatC x
  | .ag cs => ∀ x ∈ cs, FlatC x
  | .pe _ _ _ _ _ => False
  | .gd _ x => EvFlat x
  | _ => True
def SvFlat : SV → Prop
  | .e x => EvFlat x
  | .tup xs => ∀ x ∈ xs, EvFlat x
def ResFlat : Res → Prop
  | .own _ (.sl _ _ f) => ∀ e q, FlatC (f e q)
  | .own _ _ => False
  | .box _ cs _ => ∀ x ∈ cs, EvFlat x
  | _ => True

/-- the handles that a value names are all in a list of names -/
def keyB (ρ : List (Nat × Nat)) (j : Nat) : Bool := match lk ρ j with
  | some _ => true
  | none => false
def keysB (ρ : List (Nat × Nat)) : List Nat → Bool
  | [] => true
  | j :: l => keyB ρ j && keysB ρ l
def EV.inB (ρ : List (Nat × Nat)) : EV → Bool
  | .r i => keyB ρ i
  | .pt i _ _ _ => keyB ρ i
  | .fn _ hs => keysB ρ hs
  | .gd _ x => x.inB ρ
  | _ => true
def inBs (ρ : List (Nat × Nat)) : List EV → Bool
  | [] => true
  | x :: l => x.inB ρ && inBs ρ l
def SV.inB (ρ : List (Nat × Nat)) : SV → Bool
  | .e x => x.inB ρ
  | .tup xs => inBs ρ xs
def Res.inB (ρ : List (Nat × Nat)) : Res → Bool
  | .box _ cs _ => inBs ρ cs
  | _ => true
theorem inBs_ok {ρ : List (Nat × Nat)} : ∀ {l : List EV}, inBs ρ l = true → ∀ x ∈ l, x.inB ρ = true
  | [], _, x, hx => by simp at hx
  | y :: l, hb, x, hx => by
    simp only [inBs, Bool.and_eq_true] at hb
    rcases List.mem_cons.1 hx with rfl | hx
    · exact hb.1
    · exact inBs_ok hb.2 x hx
theorem keysB_ok {ρ : List (Nat × Nat)} : ∀ {l : List Nat}, keysB ρ l = true → ∀ j ∈ l, ∃ i, lk ρ j = some i
  | [], _, x, hx => by simp at hx
  | y :: l, hb, x, hx => by
    simp only [keysB, Bool.and_eq_true] at hb
    rcases List.mem_cons.1 hx with rfl | hx
    · have := hb.1
      unfold keyB at this
      split at this
      · exact ⟨_, ‹_›⟩
      · cases this
    · exact keysB_ok hb.2 x hx
theorem keyB_ok {ρ : List (Nat × Nat)} {j : Nat} (hb : keyB ρ j = true) : ∃ i, lk ρ j = some i := by
  unfold keyB at hb
  split at hb
  · exact ⟨_, ‹_›⟩
  · cases hb

section
variable {P : Program} {lay : Lay} {o o' : Nat → Tag} {h h' : Nat → Value} {A A' : St} {tm : Array Value} {w w' : World} {Q : Exit → St → Prop} {k : List K} {e : Exit}

/-- back from the callee's names to the caller's -/
theorem EvOk.back {ρ : List (Nat × Nat)} {x : EV} {v : Value} (hin : x.inB ρ = true) (hh : ∀ j i, lk ρ j = some i → h' i = h j) (hk : Keep o w o' w ∨ EvFlat x) (hx : EvOk o h w x v) : EvOk o' h' w (x.ren ρ) v := by
  have hrn : ∀ j, keyB ρ j = true → h' (rn ρ j) = h j := fun j hj => by
    obtain ⟨i, hi⟩ := keyB_ok hj
    have : rn ρ j = i := by simp [rn, hi]
    rw [this]; exact hh j i hi
  have flat : ∀ {y : CV} {u : Value}, FlatC y → RepV o w y u → RepV o' w y u := fun {y u} hf hr => by
    cases y with
    | lit _ => exact hr
    | _ => exact hf.elim
  induction x with
  | r i => show v = h' (rn ρ i); rw [hrn i hin]; exact hx
  | pt i k e q => show ∃ b, headOf (h' (rn ρ i)) = some b ∧ _; rw [hrn i hin]; exact hx
  | fn g hs =>
    show v = .func (.func g) #[] ((rnL ρ hs).map h').toArray
    have : (rnL ρ hs).map h' = hs.map h := by
      rw [rnL_eq, List.map_map]
      refine List.map_congr_left fun j hj => ?_
      obtain ⟨i, hi⟩ := keysB_ok hin j hj
      show h' (rn ρ j) = h j
      have : rn ρ j = i := by simp [rn, hi]
      rw [this]; exact hh j i hi
    rw [this]; exact hx
  | gd b x ih => exact ⟨fun e => ih hin (hk.imp id fun hf => hf) (hx.1 e), hx.2⟩
  | dead => trivial
  | c x => exact hk.elim (fun hk => RepV.keep hk hx) (fun hf => flat hf hx)
  | ag cs =>
    rcases hk with hk | hf
    · exact EvOk.keep (x := .ag cs) hk hx
    · obtain ⟨vs, rfl, h1, h2⟩ := hx
      exact ⟨vs, rfl, h1, fun q y hq => let ⟨u, hu, hr⟩ := h2 q y hq; ⟨u, hu, flat (hf y (List.mem_of_getElem? hq)) hr⟩⟩
  | pe n k f e q => exact hk.elim (fun hk => EvOk.keep (x := .pe n k f e q) hk hx) (fun hf => hf.elim)

theorem SvOk.back {ρ : List (Nat × Nat)} {x : SV} {v : Value} (hin : x.inB ρ = true) (hh : ∀ j i, lk ρ j = some i → h' i = h j) (hk : Keep o w o' w ∨ SvFlat x) (hx : SvOk o h w x v) : SvOk o' h' w (x.ren ρ) v := by
  cases x with
  | e x => exact EvOk.back hin hh (hk.imp id fun hf => hf) hx
  | tup xs =>
    obtain ⟨vs, rfl, h1, h2⟩ := hx
    refine ⟨vs, rfl, by rw [renL_eq]; simpa using h1, fun q x hq => ?_⟩
    rw [renL_eq, List.getElem?_map] at hq
    cases hxq : xs[q]? with
    | none => simp [hxq] at hq
    | some x0 =>
      simp [hxq] at hq
      subst hq
      obtain ⟨u, hu, hx⟩ := h2 q x0 hxq
      have hm := List.mem_of_getElem? hxq
      exact ⟨u, hu, hx.back (inBs_ok hin x0 hm) hh (hk.imp id fun hf => hf x0 hm)⟩

theorem ResOk.back {ρ : List (Nat × Nat)} {j i : Nat} (hl : lk ρ j = some i) {r : Res} (hin : r.inB ρ = true) (hh : ∀ j i, lk ρ j = some i → h' i = h j) (ht : ∀ b, o b = .hd j → o' b = .hd i) (hk : Keep o w o' w ∨ ResFlat r)
    (hr : ResOk o h w j r) : ResOk o' h' w i (r.ren ρ) := by
  have hi := hh j i hl
  cases r with
  | gone => trivial
  | own E x =>
    cases x with
    | sl n k f =>
      obtain ⟨vs, hown, htag, hv⟩ := hr
      refine ⟨vs, by rw [hi]; exact hown, fun b hb => ht b (htag b (by rw [← hi]; exact hb)), fun e q he hq => ?_⟩
      obtain ⟨u, hu, hx⟩ := hv e q he hq
      refine ⟨u, hu, hk.elim (fun hk => hx.keep hk) fun hf => ?_⟩
      have := hf e q
      generalize f e q = y at this hx
      cases y with
      | lit _ => exact hx
      | _ => exact this.elim
    | lit _ => exact hr.elim
    | clo _ _ _ _ => exact hr.elim
  | box T cs bk =>
    obtain ⟨b, vs, h0, h1, h2, h3, h4, h5⟩ := hr
    refine ⟨b, vs, h0, hi.trans h1, h2, ht b h3, by rw [renL_eq]; simpa using h4, fun q x hq => ?_⟩
    rw [renL_eq, List.getElem?_map] at hq
    cases hxq : cs[q]? with
    | none => simp [hxq] at hq
    | some x0 =>
      simp [hxq] at hq
      subst hq
      obtain ⟨u, hu, hone, hx⟩ := h5 q x0 hxq
      have hm := List.mem_of_getElem? hxq
      exact ⟨u, hu, hone, hx.back (inBs_ok hin x0 hm) hh (hk.imp id fun hf => hf x0 hm)⟩
  | mset xs =>
    obtain ⟨b, es, clock, h1, h2, h3, h4⟩ := hr
    exact ⟨b, es, clock, hi.trans h1, h2, ht b h3, h4⟩

/-! what is handed over -/
inductive Mt (A : St) (ρ : List (Nat × Nat)) (L : List Nat) : EV → EV → Prop where
  | same {y : EV} : Mt A ρ L (y.ren ρ) y
  | conv {X Y : CV} (he : CVEq X Y) : Mt A ρ L (.c X) (.c Y)
  | agc {xs ys : List CV} (hl : xs.length = ys.length) (he : ∀ (q : Nat) x y, xs[q]? = some x → ys[q]? = some y → CVEq x y) : Mt A ρ L (.ag xs) (.ag ys)
  | lend {i E n k : Nat} {f : Nat → Nat → CV} {X Y : CV} (hr : lk A.rs i = some (.own E X)) (hX : X = .sl n k f) (he : CVEq X Y) (hL : memN i L = true) (hi : inv ρ i = none) : Mt A ρ L (.r i) (.c Y)
  | lfn {g m : Nat} {hs : List Nat} {ks : Nat → Nat} {caps : Nat → Nat → CV} (hm : hs.length = m)
      (hc : ∀ j, j < m → ∃ i T cs bk, hs[j]? = some i ∧ memN i L = true ∧ inv ρ i = none ∧ lk A.rs i = some (.box T cs bk) ∧ ∀ q, q < ks j → cs[q]? = some (.c (caps j q))) : Mt A ρ L (.fn g hs) (.c (.clo g m ks caps))

theorem memN_mem {d : Nat} : ∀ {l : List Nat}, memN d l = true → d ∈ l
  | [], h => by simp [memN] at h
  | x :: l, h => by
    simp only [memN, Bool.or_eq_true] at h
    rcases h with h | h
    · exact List.mem_cons.2 (.inl (Nat.eq_of_beq_eq_true h).symm)
    · exact List.mem_cons.2 (.inr (memN_mem h))

theorem Mt.ok {ρ : List (Nat × Nat)} {L : List Nat} {x y : EV} {v : Value} (hs : Sat o h A tm w) (hm : Mt A ρ L x y) (hx : EvOk o h w x v) :
    EvOk (viewO ρ (fun i => memN i L) o) (viewH ρ h) w y v := by
  have hk : Keep o w (viewO ρ (fun i => memN i L) o) w := keep_view ρ _
  have lent : ∀ {i b : Nat}, memN i L = true → inv ρ i = none → o b = .hd i → viewO ρ (fun i => memN i L) o b = .sh := fun {i b} hL hi hb => by simp [viewO, hb, hi, hL]
  cases hm with
  | same => exact EvOk.view hk hx
  | conv he => exact RepV.conv he (RepV.keep hk hx)
  | agc hl he =>
    obtain ⟨vs, rfl, h1, h2⟩ := hx
    refine ⟨vs, rfl, h1.trans hl, fun q y hq => ?_⟩
    rename_i xs ys
    have hlt : q < xs.length := by rw [hl]; exact (List.getElem?_eq_some_iff.1 hq).1
    obtain ⟨u, hu, hr⟩ := h2 q _ (List.getElem?_eq_getElem hlt)
    exact ⟨u, hu, RepV.conv (he q _ y (List.getElem?_eq_getElem hlt) hq) (hr.keep hk)⟩
  | lend hr hX he hL hi =>
    subst hX
    rename_i i E n k f Y
    refine RepV.conv he ?_
    obtain ⟨vs, hown, htag, hv⟩ := hs.res _ _ hr
    have hxv : v = h i := hx
    rcases hown.2 with ⟨h1, rfl⟩ | ⟨b, cap, cur, h1, h2, h3, h4, h5, h6, h7⟩
    · exact ⟨none, 0, hxv.trans h1, Nat.le_refl _, Nat.zero_le _, .inl rfl⟩
    · refine ⟨_, cap, hxv.trans h1, h4, h5, .inr ⟨b, 0, rfl, lent hL hi (htag b (by rw [h1]; rfl)), fun e q he hq => ?_⟩⟩
      obtain ⟨u, hu, hx⟩ := hv e q he hq
      have := hown.cells (g := b) (by rw [h1]; rfl) _ _ hu
      rw [addr_add] at this
      exact ⟨u, this, hx.keep hk⟩
  | lfn hm hc =>
    rename_i g m hs' ks caps
    have key : ∀ j, ∃ b, j < m → (viewO ρ (fun i => memN i L) o b = .sh ∧ (∃ i, hs'[j]? = some i ∧ h i = .pointer (some ⟨b, 0, none⟩)) ∧ ∀ q, q < ks j → ∃ u, w.cell? ⟨b, q, none⟩ = some u ∧ RepV (viewO ρ (fun i => memN i L) o) w (caps j q) u) := by
      intro j
      by_cases hj : j < m
      · obtain ⟨i, T, cs, bk, h1, h2, h3, h4, h5⟩ := hc j hj
        obtain ⟨b, vs, _, g1, g2, g3, g4, g5⟩ := hs.res i _ h4
        refine ⟨b, fun _ => ⟨lent h2 h3 g3, ⟨i, h1, g1⟩, fun q hq => ?_⟩⟩
        obtain ⟨u, hu, _, hr⟩ := g5 q _ (h5 q hq)
        exact ⟨u, by simp [World.cell?, g2, hu], RepV.keep hk hr⟩
      · exact ⟨0, fun hj' => absurd hj' hj⟩
    refine ⟨fun j => Classical.choose (key j), ?_, fun j hj => ?_⟩
    · have hxv : v = .func (.func g) #[] (hs'.map h).toArray := hx
      rw [hxv]
      congr 2
      refine List.ext_getElem? fun j => ?_
      rw [List.getElem?_map, List.getElem?_map]
      by_cases hj : j < m
      · obtain ⟨_, ⟨i, hi, hb⟩, _⟩ := Classical.choose_spec (key j) hj
        rw [hi, List.getElem?_range hj]
        simp [hb]
      · rw [List.getElem?_eq_none (by omega), List.getElem?_eq_none (by simpa using Nat.le_of_not_lt hj)]
        rfl
    · obtain ⟨h1, _, h3⟩ := Classical.choose_spec (key j) hj
      exact ⟨h1, h3⟩

def argsP (A : St) (ρ : List (Nat × Nat)) (L : List Nat) : List Operand → List EV → Prop
  | [], [] => True
  | x :: xs, y :: ys => (∃ z p, rd A x = some (z, p) ∧ p ∧ Mt A ρ L z y) ∧ argsP A ρ L xs ys
  | _, _ => False

theorem argsP_ok {ρ : List (Nat × Nat)} {L : List Nat} (hs : Sat o h A tm w) : ∀ {xs : List Operand} {ys : List EV}, argsP A ρ L xs ys → xs.length = ys.length ∧ ∀ (j : Nat) y, ys[j]? = some y → ∃ x, xs[j]? = some x ∧ EvOk (viewO ρ (fun i => memN i L) o) (viewH ρ h) w y (evl tm x)
  | [], [], _ => ⟨rfl, by simp⟩
  | x :: xs, y :: ys, ha => by
    obtain ⟨⟨z, p, h1, h2, h3⟩, h4⟩ := ha
    obtain ⟨g1, g2⟩ := argsP_ok hs h4
    refine ⟨by simp [g1], fun j y' hj => ?_⟩
    cases j with
    | zero => simp at hj; subst hj; exact ⟨x, rfl, Mt.ok hs h3 (rd_ok hs h1 h2)⟩
    | succ j => simp at hj; simpa using g2 j y' hj
  | [], _ :: _, ha => ha.elim
  | _ :: _, [], ha => ha.elim

def capE (ks : Nat → Nat) (caps : Nat → Nat → CV) : Nat → Nat → List EV
  | 0, _ => []
  | m + 1, j => .pe 1 (ks j) (fun _ q => caps j q) 0 0 :: capE ks caps m (j + 1)
theorem capE_length (ks : Nat → Nat) (caps : Nat → Nat → CV) : ∀ m j, (capE ks caps m j).length = m
  | 0, j => rfl
  | m + 1, j => by simp [capE, capE_length ks caps m (j + 1)]
theorem capE_get (ks : Nat → Nat) (caps : Nat → Nat → CV) : ∀ m j q, q < m → (capE ks caps m j)[q]? = some (.pe 1 (ks (j + q)) (fun _ r => caps (j + q) r) 0 0)
  | 0, j, q, hq => by omega
  | m + 1, j, 0, hq => by simp [capE]
  | m + 1, j, q + 1, hq => by
    simp only [capE, List.getElem?_cons_succ]
    rw [capE_get ks caps m (j + 1) q (by omega), show j + 1 + q = j + (q + 1) by omega]

def gones : List (Nat × Nat) → List (Nat × Res) → List (Nat × Res)
  | [], l => l
  | (_, i) :: ρ, l => (i, .gone) :: gones ρ l
def renR (ρ : List (Nat × Nat)) : List (Nat × Res) → List (Nat × Res) → List (Nat × Res)
  | [], l => l
  | (j, r) :: rs, l => (rn ρ j, r.ren ρ) :: renR ρ rs l
def resIn (ρ : List (Nat × Nat)) : List (Nat × Res) → Bool
  | [] => true
  | (j, r) :: rs => keyB ρ j && (r.inB ρ && resIn ρ rs)

theorem renR_lk {ρ : List (Nat × Nat)} : ∀ {rs l : List (Nat × Res)} {i : Nat} {r : Res}, lk (renR ρ rs l) i = some r → (∃ j r0, (j, r0) ∈ rs ∧ rn ρ j = i ∧ r = r0.ren ρ ∧ (oneB ρ = true → resIn ρ rs = true → lk rs j = some r0)) ∨ lk l i = some r
  | [], l, i, r, hl => .inr hl
  | (j, r0) :: rs, l, i, r, hl => by
    simp only [renR] at hl
    rw [lk_cons] at hl
    split at hl
    · rename_i e
      cases hl
      exact .inl ⟨j, r0, .head _, e, rfl, fun _ _ => by rw [lk_cons, if_pos rfl]⟩
    · rename_i hne
      rcases renR_lk hl with ⟨j', r', hm, he, hr, hlk⟩ | hr
      · refine .inl ⟨j', r', .tail _ hm, he, hr, fun h1 h2 => ?_⟩
        simp only [resIn, Bool.and_eq_true] at h2
        rw [lk_cons, if_neg]
        · exact hlk h1 h2.2.2
        · rintro rfl; exact hne he
      · exact .inr hr

theorem gones_lk {ρ : List (Nat × Nat)} : ∀ {l : List (Nat × Res)} {i : Nat} {r : Res}, lk (gones ρ l) i = some r → r = .gone ∨ (inv ρ i = none ∧ lk l i = some r)
  | l, i, r, hl => by
    induction ρ with
    | nil => exact .inr ⟨rfl, hl⟩
    | cons a ρ ih =>
      obtain ⟨j, i'⟩ := a
      simp only [gones] at hl
      rw [lk_cons] at hl
      split at hl
      · cases hl; exact .inl rfl
      · rename_i hne
        rcases ih hl with h | ⟨h1, h2⟩
        · exact .inl h
        · right
          refine ⟨?_, h2⟩
          simp only [inv]
          have : Nat.beq i' i = false := by cases hb : Nat.beq i' i with
            | false => rfl
            | true => exact absurd (Nat.eq_of_beq_eq_true hb) hne
          rw [this]; exact h1

theorem resIn_ok {ρ : List (Nat × Nat)} : ∀ {rs : List (Nat × Res)}, resIn ρ rs = true → ∀ j r, (j, r) ∈ rs → keyB ρ j = true ∧ r.inB ρ = true
  | [], _, j, r, hm => by simp at hm
  | (j', r') :: rs, hb, j, r, hm => by
    simp only [resIn, Bool.and_eq_true] at hb
    rcases List.mem_cons.1 hm with e | hm
    · cases e; exact ⟨hb.1, hb.2.1⟩
    · exact resIn_ok hb.2.2 j r hm

/-- the names that come back: either free here, or those of a box that was handed over and came back -/
def newB (A : St) (ρ : List (Nat × Nat)) (rs rs' : List (Nat × Res)) (kp : List Nat) : List (Nat × Nat) → Prop
  | [] => True
  | (j, i) :: ρ' => (freshB A i = true ∨ (lk ρ j = some i ∧ (memN j kp = true ∨ ∃ T cs T' cs' b, lk rs j = some (.box T cs (some b)) ∧ lk rs' j = some (.box T' cs' (some b))))) ∧ newB A ρ rs rs' kp ρ'
theorem newB_ok {ρ : List (Nat × Nat)} {rs rs' : List (Nat × Res)} {kp : List Nat} : ∀ {ρ' : List (Nat × Nat)}, newB A ρ rs rs' kp ρ' → ∀ j i, lk ρ' j = some i → (freshB A i = true ∨ (lk ρ j = some i ∧ (memN j kp = true ∨ ∃ T cs T' cs' b, lk rs j = some (.box T cs (some b)) ∧ lk rs' j = some (.box T' cs' (some b)))))
  | [], _, _, _, hl => by simp [lk] at hl
  | (j', i') :: ρ', hn, j, i, hl => by
    rw [lk_cons] at hl
    split at hl
    · rename_i e; subst e; cases hl; exact hn.1
    · exact newB_ok hn.2 j i hl

theorem lk_inv {ρ : List (Nat × Nat)} {i j : Nat} (h1 : oneB ρ = true) (hi : inv ρ i = some j) : lk ρ j = some i := by
  induction ρ with
  | nil => simp [inv] at hi
  | cons a ρ ih =>
    obtain ⟨j', i'⟩ := a
    simp only [oneB, Bool.and_eq_true] at h1
    simp only [inv] at hi
    rw [lk_cons]
    cases hb : Nat.beq i' i with
    | true =>
      rw [hb] at hi
      simp at hi
      subst hi
      rw [if_pos rfl, Nat.eq_of_beq_eq_true hb]
    | false =>
      rw [hb] at hi
      simp at hi
      have := ih h1.2.2 hi
      rw [if_neg]
      · exact this
      · rintro rfl
        rw [this] at h1
        simp at h1

/-- an operation that is carried out -/
def Wanted (A : St) (all : Array Oper) (op : Oper) : Prop := op.guard = none ∨ ∃ j want b, op.guard = some (j, want) ∧ gdOf A all j want = some b ∧ b = true

theorem Wanted.ok {all : Array Oper} {op : Oper} (hs : Sat o h A tm w) (hw : Wanted A all op) : Region.wanted op (yielded all tm) = true := by
  rcases hw with hg | ⟨j, want, b, hg, hb, ht⟩
  · simp [Region.wanted, hg]
  · simp [Region.wanted, hg, gdOf_true hs hb ht]

/-- a contract that also says which handed rows keep their place -/
def DoesK (P : Program) (f : FuncId) (ys : List EV) (rs : List (Nat × Res)) (y : SV) (rs' : List (Nat × Res)) (kp : List Nat) : Prop :=
  ∀ o h args w, Sat o h ⟨ys.length, idx 0 ys, rs⟩ args w → Calls P f args w fun e w' => ∃ v o' h', e = .returned v ∧ Sat o' h' ⟨1, [(0, y)], rs'⟩ #[v] w' ∧ Ext o w o' w' ∧ ∀ j ∈ kp, h' j = h j
theorem DoesF.toK {f : FuncId} {ys : List EV} {rs rs' : List (Nat × Res)} {y : SV} (D : DoesF P f ys rs y rs') : DoesK P f ys rs y rs' [] := fun o h args w hs =>
  (D o h args w hs).mono fun _ _ ⟨v, o', h', a, b, c⟩ => ⟨v, o', h', a, b, c, fun j hj => by cases hj⟩

theorem call_wp0 {op : Oper} {c : Call} {g m : Nat} {kp : List Nat} {ks : Nat → Nat} {caps : Nat → Nat → CV} {p : Prop} {f : Operand} {ys1 ys : List EV} {rs rs' : List (Nat × Res)} {y : SV} {K : Act → World → Prop} {QQ : Exit → Act → World → Prop}
    (D : DoesK P g ys rs y rs' kp) (eg : ∀ args w, (callFunc g args).run P w = .ok (.enter g args) w) (ρ ρ' : List (Nat × Nat)) (L : List Nat) (hs : Sat o h A tm w)
    (ho : op.op = .call c) (hc : c.callee = .value f) (hf : rd A f = some (.c (.clo g m ks caps), p)) (hp : p)
    (hys : ys = ys1 ++ capE ks caps m 0) (hargs : argsP A ρ L c.args.toList ys1) (h1 : oneB ρ = true) (hR : subR ρ A rs)
    (h1' : oneB ρ' = true) (hnew : newB A ρ rs rs' kp ρ') (hy : y.inB ρ' = true) (hrs : resIn ρ' rs' = true) (hflat : L = [] ∨ (SvFlat y ∧ ∀ j r, (j, r) ∈ rs' → ResFlat r))
    (hn : ∀ o2 h2 v w1, Sat o2 h2 ⟨A.n, A.sl, renR ρ' rs' (gones ρ A.rs)⟩ tm w1 → SvOk o2 h2 w1 (y.ren ρ') v → Ext o w o2 w1 → K ((⟨tm, []⟩ : Act).put op.dst v) w1) :
    op.wp P ⟨tm, []⟩ w K QQ := by
  unfold Oper.wp
  show op.upon P ⟨tm, []⟩ _ _ ((execOp (evl tm) op).run P w)
  obtain ⟨bs, hfv, hbs⟩ := rd_ok hs hf hp
  obtain ⟨hal, hag⟩ := argsP_ok hs hargs
  generalize hargsv : (c.args.map (evl tm) ++ ((List.range m).map fun j => Value.pointer (some ⟨bs j, 0, none⟩)).toArray) = args
  have hrun : (execOp (evl tm) op).run P w = .ok (.enter g args) w := by
    simp only [execOp, ho, resolve, hc, hfv]
    simp only [Deferred.ofValue, Sem.run_bind, Sem.run_pure, Result.andThen_ok, invoke, Array.empty_append]
    rw [hargsv]
    exact eg args w
  rw [hrun]
  generalize ho0 : viewO ρ (fun i => memN i L) o = o0
  generalize hh0 : viewH ρ h = h0
  have hk0 : Keep o w o0 w := by rw [← ho0]; exact keep_view ρ _
  -- the callee's start
  have hs0 : Sat o0 h0 ⟨ys.length, idx 0 ys, rs⟩ args w := by
    have hsz : args.size = ys.length := by
      rw [← hargsv, hys]; simp [capE_length]; rw [← hal]; simp
    refine ⟨hsz, by rw [← ho0]; exact tags_view hs ρ _, fun s x hl => ?_, fun j r hl => ?_⟩
    · obtain ⟨_, hlts, y0, hy0, rfl⟩ := idx_lt ys 0 s x hl
      rw [Nat.sub_zero] at hy0
      show EvOk o0 h0 w y0 _
      have hcl : c.args.size = ys1.length := by rw [← hal]; simp
      rw [hys] at hy0
      by_cases hs1 : s < ys1.length
      · rw [List.getElem?_append_left hs1] at hy0
        obtain ⟨x0, hx0, hok⟩ := hag s y0 hy0
        rw [ho0, hh0] at hok
        have : args.getD s undef = evl tm x0 := by
          rw [← hargsv, Array.getD_eq_getD_getElem?, Array.getElem?_append_left (by simpa [hcl] using hs1), Array.getElem?_map]
          have : c.args[s]? = some x0 := by simpa using hx0
          rw [this]; rfl
        rw [this]; exact hok
      · rw [List.getElem?_append_right (by omega)] at hy0
        have hsm : s - ys1.length < m := by
          have := (List.getElem?_eq_some_iff.1 hy0).1
          rw [capE_length] at this; exact this
        rw [capE_get ks caps m 0 _ hsm, Nat.zero_add] at hy0
        cases hy0
        obtain ⟨b1, b2⟩ := hbs _ hsm
        have : args.getD s undef = .pointer (some ⟨bs (s - ys1.length), 0, none⟩) := by
          rw [← hargsv, Array.getD_eq_getD_getElem?, Array.getElem?_append_right (by simp [hcl]; omega)]
          simp [hcl, List.getElem?_range hsm]
        rw [this]
        refine ⟨bs (s - ys1.length), 0, by simp, (hk0 _ b1).1, fun e' q' he' hq' => ?_⟩
        obtain ⟨u, hu, hx⟩ := b2 q' hq'
        have : e' = 0 := by omega
        subst this
        exact ⟨u, by simpa using hu, hx.keep hk0⟩
    · obtain ⟨i, hi, hr⟩ := subR_ok hR j r hl
      rw [← ho0, ← hh0]
      exact (hs.res i _ hr).view h1 hi
  refine Calls.mono (D o0 h0 args w hs0) ?_
  rintro e w1 ⟨v, o1, h1f, rfl, hs1, hx1, hkp⟩
  show K ((⟨tm, []⟩ : Act).put op.dst v) w1
  -- the caller's tags and handles behind the call
  let newT : Nat → Tag := fun b => match o1 b with
    | .hd j => (match lk ρ' j with | some i => .hd i | none => .no)
    | t => t
  let o2 : Nat → Tag := fun b => match o b with
    | .sh => .sh
    | .no => if b < w.heap.size then .no else newT b
    | .hd i => (match inv ρ i with | some _ => newT b | none => .hd i)
  let h2 : Nat → Value := fun i => match inv ρ' i with
    | some j => h1f j
    | none => h i
  have hview : ∀ b, o0 b = (match o b with | .hd i => (match inv ρ i with | some j => .hd j | none => bif memN i L then .sh else .no) | t => t) := fun b => by rw [← ho0]; rfl
  have hsh : ∀ b, o b = .sh → o2 b = .sh ∧ w1.heap[b]? = w.heap[b]? := fun b hb => by
    have h0b : o0 b = .sh := by rw [hview, hb]
    refine ⟨by simp [o2, hb], (hx1.sh b h0b ((hs.tags b).2 hb)).2⟩
  have hno : ∀ b, o b = .no → b < w.heap.size → o2 b = .no ∧ w1.heap[b]? = w.heap[b]? := fun b hb hlt' => by
    have h0b : o0 b = .no := by rw [hview, hb]
    exact ⟨by simp [o2, hb, hlt'], (hx1.no b h0b hlt').2⟩
  have hkept : ∀ b i, o b = .hd i → inv ρ i = none → o2 b = .hd i ∧ w1.heap[b]? = w.heap[b]? := fun b i hb hi => by
    have hlt' := (hs.tags b).1 i hb
    refine ⟨by simp [o2, hb, hi], ?_⟩
    have h0b : o0 b = bif memN i L then .sh else .no := by rw [hview, hb]; simp [hi]
    cases hm : memN i L with
    | true => rw [hm] at h0b; exact (hx1.sh b h0b hlt').2
    | false => rw [hm] at h0b; exact (hx1.no b h0b hlt').2
  have hext : Ext o w o2 w1 := ⟨hx1.size, hx1.os, hx1.tape, hx1.output, hx1.drawn, fun b hb _ => hsh b hb, fun b hb hlt' => hno b hb hlt'⟩
  have hh2 : ∀ j i, lk ρ' j = some i → h2 i = h1f j := fun j i hl => by simp [h2, inv_of h1' hl]
  have hboxp : ∀ j i, lk ρ' j = some i → freshB A i = true ∨ (h1f j = h i ∧ lk ρ j = some i) := fun j i hl => by
    rcases newB_ok hnew j i hl with hf | ⟨hl0, hm | ⟨T, cs, T', cs', b, hb1, hb2⟩⟩
    · exact .inl hf
    · exact .inr ⟨by rw [hkp j (memN_mem hm), ← hh0]; simp [viewH, rn, hl0], hl0⟩
    · right
      refine ⟨?_, hl0⟩
      obtain ⟨b1, _, e1, e2, _⟩ := hs0.res j _ hb1
      obtain ⟨b2, _, e3, e4, _⟩ := hs1.res j _ hb2
      rw [e4, e3 b rfl]
      rw [e1 b rfl] at e2
      rw [← e2, ← hh0]
      simp [viewH, rn, hl0]
  have hmen : ∀ i, h2 i ≠ h i → freshB A i = true := fun i hne => by
    simp only [h2] at hne
    split at hne
    · rename_i j hj
      rcases hboxp j i (lk_inv h1' hj) with hf | ⟨he, _⟩
      · exact hf
      · exact absurd he hne
    · exact absurd rfl hne
  have hkeep2 : Keep o1 w1 o2 w1 ∨ (SvFlat y ∧ ∀ j r, (j, r) ∈ rs' → ResFlat r) := by
    rcases hflat with rfl | hf
    · left
      intro b hb
      refine ⟨?_, rfl⟩
      show o2 b = .sh
      simp only [o2]
      cases hob : o b with
      | sh => rfl
      | no =>
        have h0b : o0 b = .no := by rw [hview, hob]
        by_cases hlt' : b < w.heap.size
        · have := (hx1.no b h0b hlt').1
          rw [hb] at this; cases this
        · simp [hlt', newT, hb]
      | hd i =>
        have hlt' := (hs.tags b).1 i hob
        cases hi : inv ρ i with
        | some j => simp [hi, newT, hb]
        | none =>
          have h0b : o0 b = .no := by rw [hview, hob]; simp [hi, memN]
          have := (hx1.no b h0b hlt').1
          rw [hb] at this; cases this
    · exact .inr hf
  have htag2 : ∀ j i, lk ρ' j = some i → ∀ b, o1 b = .hd j → o2 b = .hd i := fun j i hl b hb => by
    simp only [o2]
    cases hob : o b with
    | sh =>
      have h0b : o0 b = .sh := by rw [hview, hob]
      have := (hx1.sh b h0b ((hs.tags b).2 hob)).1
      rw [hb] at this; cases this
    | no =>
      have h0b : o0 b = .no := by rw [hview, hob]
      by_cases hlt' : b < w.heap.size
      · have := (hx1.no b h0b hlt').1
        rw [hb] at this; cases this
      · simp [hlt', newT, hb, hl]
    | hd i0 =>
      have hlt' := (hs.tags b).1 i0 hob
      cases hi : inv ρ i0 with
      | some j0 => simp [hi, newT, hb, hl]
      | none =>
        exfalso
        have h0b : o0 b = bif memN i0 L then .sh else .no := by rw [hview, hob]; simp [hi]
        cases hm : memN i0 L with
        | true => rw [hm] at h0b; have := (hx1.sh b h0b hlt').1; rw [hb] at this; cases this
        | false => rw [hm] at h0b; have := (hx1.no b h0b hlt').1; rw [hb] at this; cases this
  have hs2 : Sat o2 h2 ⟨A.n, A.sl, renR ρ' rs' (gones ρ A.rs)⟩ tm w1 := by
    refine ⟨hs.size, fun b => ?_, fun s x hl => ?_, fun i r hl => ?_⟩
    · have hnew1 : ∀ t, newT b = t → (∀ i, t = .hd i → b < w1.heap.size) ∧ (t = .sh → b < w1.heap.size) := by
        intro t ht
        cases hob1 : o1 b with
        | no => simp [newT, hob1] at ht; subst ht; simp
        | sh => have := (hs1.tags b).2 hob1; exact ⟨fun _ _ => this, fun _ => this⟩
        | hd j => have := (hs1.tags b).1 j hob1; exact ⟨fun _ _ => this, fun _ => this⟩
      simp only [o2]
      cases hob : o b with
      | sh => have := Nat.lt_of_lt_of_le ((hs.tags b).2 hob) hx1.size; exact ⟨fun _ _ => this, fun _ => this⟩
      | no =>
        by_cases hlt' : b < w.heap.size
        · simp [hlt']
        · simp only [hlt', if_false]; exact hnew1 _ rfl
      | hd i => have := Nat.lt_of_lt_of_le ((hs.tags b).1 i hob) hx1.size; exact ⟨fun _ _ => this, fun _ => this⟩
    · refine SvOk.hupd (h := h) (fun j hj => ?_) ((hs.slot s x hl).keep hsh)
      have := hmen j hj
      simp only [freshB, Bool.and_eq_true] at this
      exact freshS_ok this.1 s x hl
    · rcases renR_lk hl with ⟨j, r0, hm, hj, rfl, hlk⟩ | hl
      · obtain ⟨hkj, hinr⟩ := resIn_ok hrs j r0 hm
        obtain ⟨i', hi'⟩ := keyB_ok hkj
        have : i' = i := by rw [← hj]; simp [rn, hi']
        subst this
        exact ResOk.back hi' hinr hh2 (htag2 j i' hi') (hkeep2.imp id fun hf => hf.2 j r0 hm) (hs1.res j r0 (hlk h1' hrs))
      · rcases gones_lk hl with rfl | ⟨hi, hl⟩
        · trivial
        · have hf : ∀ j, h2 j ≠ h j → i ≠ j ∧ r.men j = false := fun j hj => by
            have := hmen j hj
            simp only [freshB, Bool.and_eq_true] at this
            exact freshR_ok this.2 i r hl
          exact ResOk.chg hsh (fun b hb => hkept b i hb hi) (Classical.byContradiction fun hne => (hf i hne).1 rfl) (fun j hj => (hf j hj).2) (hs.res i r hl)
  have hv := hs1.slot 0 y (by rw [lk_cons, if_pos rfl])
  exact hn o2 h2 v w1 hs2 (SvOk.back hy hh2 (hkeep2.imp id fun hf => hf.1) hv) hext

theorem call_wpK {op : Oper} {c : Call} {d g m : Nat} {kp : List Nat} {ks : Nat → Nat} {caps : Nat → Nat → CV} {p : Prop} {f : Operand} {ys1 ys : List EV} {rs rs' : List (Nat × Res)} {y : SV} {K : Act → World → Prop} {QQ : Exit → Act → World → Prop}
    (D : DoesK P g ys rs y rs' kp) (eg : ∀ args w, (callFunc g args).run P w = .ok (.enter g args) w) (ρ ρ' : List (Nat × Nat)) (L : List Nat) (hs : Sat o h A tm w)
    (ho : op.op = .call c) (hd : op.dst = some d) (hlt : Nat.blt d A.n = true) (hc : c.callee = .value f) (hf : rd A f = some (.c (.clo g m ks caps), p)) (hp : p)
    (hys : ys = ys1 ++ capE ks caps m 0) (hargs : argsP A ρ L c.args.toList ys1) (h1 : oneB ρ = true) (hR : subR ρ A rs)
    (h1' : oneB ρ' = true) (hnew : newB A ρ rs rs' kp ρ') (hy : y.inB ρ' = true) (hrs : resIn ρ' rs' = true) (hflat : L = [] ∨ (SvFlat y ∧ ∀ j r, (j, r) ∈ rs' → ResFlat r))
    (hn : ∀ o2 h2 v w1, Sat o2 h2 ⟨A.n, (d, y.ren ρ') :: A.sl, renR ρ' rs' (gones ρ A.rs)⟩ (tm.setIfInBounds d v) w1 → Ext o w o2 w1 → K ⟨tm.setIfInBounds d v, []⟩ w1) :
    op.wp P ⟨tm, []⟩ w K QQ := by
  have hlt : d < A.n := by simpa [Nat.blt, Nat.succ_le_iff] using hlt
  refine call_wp0 D eg ρ ρ' L hs ho hc hf hp hys hargs h1 hR h1' hnew hy hrs hflat fun o2 h2 v w1 hs2 hv hext => ?_
  have hput : (⟨tm, []⟩ : Act).put op.dst v = ⟨tm.setIfInBounds d v, []⟩ := by simp [Act.put, hd]
  rw [hput]
  exact hn o2 h2 v w1 (hs2.put (A := ⟨A.n, A.sl, renR ρ' rs' (gones ρ A.rs)⟩) hlt hv) hext
theorem call_wp {op : Oper} {c : Call} {d g m : Nat} {ks : Nat → Nat} {caps : Nat → Nat → CV} {p : Prop} {f : Operand} {ys1 ys : List EV} {rs rs' : List (Nat × Res)} {y : SV} {K : Act → World → Prop} {QQ : Exit → Act → World → Prop}
    (D : DoesF P g ys rs y rs') (eg : ∀ args w, (callFunc g args).run P w = .ok (.enter g args) w) (ρ ρ' : List (Nat × Nat)) (L : List Nat) (hs : Sat o h A tm w)
    (ho : op.op = .call c) (hd : op.dst = some d) (hlt : Nat.blt d A.n = true) (hc : c.callee = .value f) (hf : rd A f = some (.c (.clo g m ks caps), p)) (hp : p)
    (hys : ys = ys1 ++ capE ks caps m 0) (hargs : argsP A ρ L c.args.toList ys1) (h1 : oneB ρ = true) (hR : subR ρ A rs)
    (h1' : oneB ρ' = true) (hnew : newB A ρ rs rs' [] ρ') (hy : y.inB ρ' = true) (hrs : resIn ρ' rs' = true) (hflat : L = [] ∨ (SvFlat y ∧ ∀ j r, (j, r) ∈ rs' → ResFlat r))
    (hn : ∀ o2 h2 v w1, Sat o2 h2 ⟨A.n, (d, y.ren ρ') :: A.sl, renR ρ' rs' (gones ρ A.rs)⟩ (tm.setIfInBounds d v) w1 → Ext o w o2 w1 → K ⟨tm.setIfInBounds d v, []⟩ w1) :
    op.wp P ⟨tm, []⟩ w K QQ :=
  call_wpK D.toK eg ρ ρ' L hs ho hd hlt hc hf hp hys hargs h1 hR h1' hnew hy hrs hflat hn

theorem KW.call {all : Array Oper} {op : Oper} {rest : List Oper} {c : Call} {d g m : Nat} {ks : Nat → Nat} {caps : Nat → Nat → CV} {p : Prop} {f : Operand} {ys1 ys : List EV} {rs rs' : List (Nat × Res)} {y : SV}
    (D : DoesF P g ys rs y rs') (eg : ∀ args w, (callFunc g args).run P w = .ok (.enter g args) w) (ρ ρ' : List (Nat × Nat)) (L : List Nat)
    (hw : Wanted A all op) (ho : op.op = .call c) (hd : op.dst = some d) (hlt : Nat.blt d A.n = true) (hc : c.callee = .value f) (hf : rd A f = some (.c (.clo g m ks caps), p)) (hp : p)
    (hys : ys = ys1 ++ capE ks caps m 0) (hargs : argsP A ρ L c.args.toList ys1) (h1 : oneB ρ = true) (hR : subR ρ A rs)
    (h1' : oneB ρ' = true) (hnew : newB A ρ rs rs' [] ρ') (hy : y.inB ρ' = true) (hrs : resIn ρ' rs' = true) (hflat : L = [] ∨ (SvFlat y ∧ ∀ j r, (j, r) ∈ rs' → ResFlat r))
    (hn : KW P (.ops all rest :: k) .normal ⟨A.n, (d, y.ren ρ') :: A.sl, renR ρ' rs' (gones ρ A.rs)⟩ Q) :
    KW P (.ops all (op :: rest) :: k) .normal A Q := by
  intro o h tm w hs
  show wpList P all (kq P (lift Q o w) k) (op :: rest) ⟨tm, []⟩ w
  unfold wpList
  rw [if_pos (hw.ok hs)]
  left
  exact call_wp D eg ρ ρ' L hs ho hd hlt hc hf hp hys hargs h1 hR h1' hnew hy hrs hflat fun o2 h2 v w1 hs2 hext =>
    wpList_mono (fun e a w'' hq => kq_mono (lift_trans hext) k e a w'' hq) rest _ w1 (hn o2 h2 _ w1 hs2)
/-- a call whose callee says which rows keep their place -/
theorem KW.callK {all : Array Oper} {op : Oper} {rest : List Oper} {c : Call} {d g m : Nat} {kp : List Nat} {ks : Nat → Nat} {caps : Nat → Nat → CV} {p : Prop} {f : Operand} {ys1 ys : List EV} {rs rs' : List (Nat × Res)} {y : SV}
    (D : DoesK P g ys rs y rs' kp) (eg : ∀ args w, (callFunc g args).run P w = .ok (.enter g args) w) (ρ ρ' : List (Nat × Nat)) (L : List Nat)
    (hw : Wanted A all op) (ho : op.op = .call c) (hd : op.dst = some d) (hlt : Nat.blt d A.n = true) (hc : c.callee = .value f) (hf : rd A f = some (.c (.clo g m ks caps), p)) (hp : p)
    (hys : ys = ys1 ++ capE ks caps m 0) (hargs : argsP A ρ L c.args.toList ys1) (h1 : oneB ρ = true) (hR : subR ρ A rs)
    (h1' : oneB ρ' = true) (hnew : newB A ρ rs rs' kp ρ') (hy : y.inB ρ' = true) (hrs : resIn ρ' rs' = true) (hflat : L = [] ∨ (SvFlat y ∧ ∀ j r, (j, r) ∈ rs' → ResFlat r))
    (hn : KW P (.ops all rest :: k) .normal ⟨A.n, (d, y.ren ρ') :: A.sl, renR ρ' rs' (gones ρ A.rs)⟩ Q) :
    KW P (.ops all (op :: rest) :: k) .normal A Q := by
  intro o h tm w hs
  show wpList P all (kq P (lift Q o w) k) (op :: rest) ⟨tm, []⟩ w
  unfold wpList
  rw [if_pos (hw.ok hs)]
  left
  exact call_wpK D eg ρ ρ' L hs ho hd hlt hc hf hp hys hargs h1 hR h1' hnew hy hrs hflat fun o2 h2 v w1 hs2 hext =>
    wpList_mono (fun e a w'' hq => kq_mono (lift_trans hext) k e a w'' hq) rest _ w1 (hn o2 h2 _ w1 hs2)
/-- a call whose answer is dropped -/
theorem KW.callN {all : Array Oper} {op : Oper} {rest : List Oper} {c : Call} {g m : Nat} {kp : List Nat} {ks : Nat → Nat} {caps : Nat → Nat → CV} {p : Prop} {f : Operand} {ys1 ys : List EV} {rs rs' : List (Nat × Res)} {y : SV}
    (D : DoesK P g ys rs y rs' kp) (eg : ∀ args w, (callFunc g args).run P w = .ok (.enter g args) w) (ρ ρ' : List (Nat × Nat)) (L : List Nat)
    (hw : Wanted A all op) (ho : op.op = .call c) (hd : op.dst = none) (hc : c.callee = .value f) (hf : rd A f = some (.c (.clo g m ks caps), p)) (hp : p)
    (hys : ys = ys1 ++ capE ks caps m 0) (hargs : argsP A ρ L c.args.toList ys1) (h1 : oneB ρ = true) (hR : subR ρ A rs)
    (h1' : oneB ρ' = true) (hnew : newB A ρ rs rs' kp ρ') (hy : y.inB ρ' = true) (hrs : resIn ρ' rs' = true) (hflat : L = [] ∨ (SvFlat y ∧ ∀ j r, (j, r) ∈ rs' → ResFlat r))
    (hn : KW P (.ops all rest :: k) .normal ⟨A.n, A.sl, renR ρ' rs' (gones ρ A.rs)⟩ Q) :
    KW P (.ops all (op :: rest) :: k) .normal A Q := by
  intro o h tm w hs
  show wpList P all (kq P (lift Q o w) k) (op :: rest) ⟨tm, []⟩ w
  unfold wpList
  rw [if_pos (hw.ok hs)]
  left
  refine call_wp0 D eg ρ ρ' L hs ho hc hf hp hys hargs h1 hR h1' hnew hy hrs hflat fun o2 h2 v w1 hs2 _ hext => ?_
  have hput : (⟨tm, []⟩ : Act).put op.dst v = ⟨tm, []⟩ := by simp [Act.put, hd]
  rw [hput]
  exact wpList_mono (fun e a w'' hq => kq_mono (lift_trans hext) k e a w'' hq) rest _ w1 (hn o2 h2 _ w1 hs2)
/-- a slice's length is an int -/
theorem KW.len (s : Nat) {n k' : Nat} {f : Nat → Nat → CV} {x : CV} (hl : lk A.sl s = some (.e (.c x))) (hx : x = .sl n k' f) (hk : n ≤ 9223372036854775807 → KW P k e A Q) : KW P k e A Q := by
  subst hx
  intro o h tm w hs
  obtain ⟨a, cap, _, h1, h2, _⟩ := hs.slot s _ hl
  exact hk (by simp only [maxLen] at h2; omega) o h tm w hs
theorem KW.lenR (i : Nat) {E n k' : Nat} {f : Nat → Nat → CV} {x : CV} (hl : lk A.rs i = some (.own E x)) (hx : x = .sl n k' f) (hk : n ≤ 9223372036854775807 → KW P k e A Q) : KW P k e A Q := by
  subst hx
  intro o h tm w hs
  obtain ⟨vs, hown, _⟩ := hs.res i _ hl
  refine hk ?_ o h tm w hs
  rcases hown.2 with ⟨_, h0⟩ | ⟨g, cap, cur, _, _, _, h1, h2, _⟩
  · omega
  · simp only [maxLen] at h2; omega
end

/-- an error's value -/
def errV (T : Nat) (n : Int) : Value := if n = 0 then .nilIface else .iface T (.int .i64 n)
@[simp] theorem isNilB_errV (T : Nat) (n : Int) : isNilB (errV T n) = decide (n = 0) := by unfold errV; split <;> simp_all [isNilB]
@[simp] theorem ifcV_errV (T : Nat) (n : Int) : ifcV (errV T n) := by unfold errV; split <;> simp [ifcV]
def intss (ls : List (List Int)) : CV := .sl ls.length 1 (fun e _ => ints (ls.getD e []))
abbrev iV (n : Int) : EV := .c (.lit (.int .i64 n))
abbrev bV (b : Bool) : EV := .c (.lit (.bool b))
abbrev sI (n : Int) : SV := .e (.c (.lit (.int .i64 n)))
abbrev sB (b : Bool) : SV := .e (.c (.lit (.bool b)))

end Go.Sy
