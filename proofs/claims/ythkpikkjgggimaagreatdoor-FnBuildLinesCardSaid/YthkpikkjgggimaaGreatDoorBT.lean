/-
  Texts Inv, Typed, TypedL in one. No claim stands here.
-/
import Derived.Test.YthkpikkjgggimaaGreatDoorBB
import Derived.Deep.RegionLawGrows
namespace Go.Proofs.YthkpikkjgggimaaGreatDoor
open Go.RowKit
set_option linter.unusedVariables false
set_option linter.unusedSimpArgs false

def unlisted (ops : Array Oper) (L : Array Bool) : Nat := (List.range ops.size).countP fun i => !L.getD i true
theorem countP_drop {p q : Nat → Bool} {i : Nat} (h0 : p i = true) (h1 : q i = false) (h : ∀ j, q j = true → p j = true) : ∀ l : List Nat, l.countP q ≤ l.countP p ∧ (i ∈ l → l.countP q < l.countP p) := by
  intro l
  induction l with
  | nil => exact ⟨Nat.le_refl _, by simp⟩
  | cons x l ih =>
    obtain ⟨a, b⟩ := ih
    simp only [List.countP_cons]
    constructor
    · cases hq : q x
      · simp; omega
      · simp [h x hq]; exact a
    · intro hm
      rcases List.mem_cons.1 hm with rfl | hm
      · simp [h0, h1]; omega
      · have := b hm
        cases hq : q x
        · simp; omega
        · simp [h x hq]; omega
theorem unlisted_step {md : Region.Mode} {ops : Array Oper} {L : Array Bool} {i : Nat} (hi : i ∈ Region.ready md ops L) : unlisted ops (L.setIfInBounds i true) < unlisted ops L := by
  obtain ⟨h0, o, ho, _⟩ := mem_ready.1 hi
  have hlt : i < ops.size := (Array.getElem?_eq_some_iff.1 ho).1
  refine (countP_drop (i := i) (by simpa using h0) ?_ ?_ _).2 (List.mem_range.2 hlt)
  · rcases Nat.lt_or_ge i L.size with h | h
    · simp [h]
    · simp [Array.getElem?_eq_none h] at h0
  · intro j hj
    by_cases hij : i = j
    · subst hij; simpa using h0
    · rw [getD_set_ne true hij] at hj; exact hj
theorem unlisted_zero {md : Region.Mode} {ops : Array Oper} {L : Array Bool} (h : unlisted ops L = 0) : Region.ready md ops L = [] := by
  rcases hr : Region.ready md ops L with _ | ⟨i, l⟩
  · rfl
  · have := unlisted_step (L := L) (i := i) (md := md) (ops := ops) (by rw [hr]; simp)
    omega
/-- A condition on what has come up, the frame and the world, that each operation keeps and that gives the end. -/
theorem wpAny_inv {P : Program} {md : Region.Mode} {ops : Array Oper} {Q : Exit → Act → World → Prop} (Inv : Array Bool → Act → World → Prop)
    (hend : ∀ L a w, Region.ready md ops L = [] → Inv L a w → Q .normal a w)
    (hstep : ∀ L a w i, i ∈ Region.ready md ops L → Inv L a w → wpOp P ops Q i (Inv (L.setIfInBounds i true)) a w) :
    ∀ fuel L a w, unlisted ops L ≤ fuel → Inv L a w → wpAny P md ops Q fuel L a w := by
  intro fuel
  induction fuel with
  | zero => intro L a w hf h; exact ⟨unlisted_zero (Nat.le_zero.1 hf), hend L a w (unlisted_zero (Nat.le_zero.1 hf)) h⟩
  | succ fuel ih =>
    intro L a w hf h
    exact ⟨fun hr => hend L a w hr h, fun i hi => wpOp_mono (fun a' w' h' => ih _ a' w' (by have := unlisted_step hi; omega) h') (hstep L a w i hi h)⟩
theorem getD_set_self {L : Array Bool} {i : Nat} (d : Bool) (h : i < L.size) : (L.setIfInBounds i true).getD i d = true := by simp [h]
theorem tmp_put_ne {a : Act} {d k : Nat} (v : Value) (h : d ≠ k) : (a.put (some d) v).tmps.getD k undef = a.tmps.getD k undef := by
  simp [Act.put, Array.getElem?_setIfInBounds_ne h]
theorem tmp_put_self {a : Act} {d : Nat} (v : Value) (h : d < a.tmps.size) : (a.put (some d) v).tmps.getD d undef = v := by
  simp [Act.put, h]
theorem wpOp_of {P : Program} {ops : Array Oper} {Q : Exit → Act → World → Prop} {i : Nat} {o : Oper} {K : Act → World → Prop} {a : Act} {w : World} (ho : ops[i]? = some o) (hg : o.guard = none) (h : Oper.wp P o a w K Q) : wpOp P ops Q i K a w := by
  unfold wpOp
  rw [ho]
  simp only
  rw [if_pos (by simp [Region.wanted, hg])]
  exact .inl h
theorem not_ready {md : Region.Mode} {ops : Array Oper} {L : Array Bool} (hr : Region.ready md ops L = []) {i : Nat} {o : Oper} (ho : ops[i]? = some o) (hs : L.size = ops.size) (hall : ∀ e ∈ o.after, Region.binds md e = true → L.getD e.on false = true) : L.getD i false = true := by
  cases h : L.getD i false
  · exfalso
    have hlt : i < L.size := hs ▸ (Array.getElem?_eq_some_iff.1 ho).1
    have : i ∈ Region.ready md ops L := mem_ready.2 ⟨by simp [hlt] at h ⊢; exact h, o, ho, hall⟩
    rw [hr] at this
    cases this
  · rfl
end Go.Proofs.YthkpikkjgggimaaGreatDoor

namespace Go.Proofs.YthkpikkjgggimaaGreatDoor
open Go.RowKit
set_option linter.unusedVariables false
set_option linter.unusedSimpArgs false

theorem unlisted_new (ops : Array Oper) : unlisted ops (Array.replicate ops.size false) ≤ ops.size := by
  unfold unlisted
  refine Nat.le_trans List.countP_le_length ?_
  simp

/-- Each operation waits for operations with lower numbers alone. -/
def lowB (md : Region.Mode) (ops : Array Oper) : Bool := (List.range ops.size).all fun i => ((ops[i]?).map fun o => o.after.all fun e => !Region.binds md e || decide (e.on < i)).getD true
theorem lowB_spec {md : Region.Mode} {ops : Array Oper} (h : lowB md ops = true) : ∀ (i : Nat) (o : Oper), ops[i]? = some o → ∀ e ∈ o.after, Region.binds md e = true → e.on < i := by
  intro i o ho e he hb
  unfold lowB at h
  rw [List.all_eq_true] at h
  have := h i (List.mem_range.2 (Array.getElem?_eq_some_iff.1 ho).1)
  rw [ho] at this
  simp only [Option.map_some, Option.getD_some, Array.all_eq_true_iff_forall_mem] at this
  have := this e he
  rw [hb] at this
  simpa using this

/-- The temporaries that no operation of a region writes are as they were, and all else of the frame. -/
structure Untouched (n : Nat) (dst : Nat → Nat) (a0 a : Act) : Prop where
  ts : a.tmps.size = a0.tmps.size
  other : ∀ k, (∀ i, i < n → dst i ≠ k) → a.tmps.getD k undef = a0.tmps.getD k undef
  rest : { a with tmps := a0.tmps } = a0
theorem Untouched.refl (n : Nat) (dst : Nat → Nat) (a : Act) : Untouched n dst a a := ⟨rfl, fun _ _ => rfl, rfl⟩
theorem Untouched.put {n : Nat} {dst : Nat → Nat} {a0 a : Act} (h : Untouched n dst a0 a) {i : Nat} (hi : i < n) (v : Value) : Untouched n dst a0 (a.put (some (dst i)) v) := by
  refine ⟨by simp [Act.put, h.ts], fun k hk => ?_, h.rest⟩
  rw [tmp_put_ne v (hk i hi)]
  exact h.other k hk
/-- A frame behind a region, slot by slot: those that the region writes are letters. -/
def letters (f : Nat → Value) : Nat → List Bool → List Value → List Value
  | k, b :: m, v :: l => cond b (f k) v :: letters f (k + 1) m l
  | _, _, _ => []
theorem letters_get (f : Nat → Value) : ∀ (m : List Bool) (l : List Value) (k : Nat), m.length = l.length → (letters f k m l).length = l.length ∧ ∀ i, i < l.length → (letters f k m l)[i]? = some (cond (m.getD i false) (f (k + i)) (l.getD i undef)) := by
  intro m
  induction m with
  | nil => intro l k h; cases l with
    | nil => exact ⟨rfl, fun i hi => absurd hi (Nat.not_lt_zero _)⟩
    | cons v l => simp at h
  | cons b m ih => intro l k h; cases l with
    | nil => simp at h
    | cons v l =>
      obtain ⟨h1, h2⟩ := ih l (k + 1) (by simpa using h)
      refine ⟨by simp [letters, h1], fun i hi => ?_⟩
      cases i with
      | zero => simp [letters]
      | succ i =>
        have := h2 i (by simpa using hi)
        rw [show k + (i + 1) = k + 1 + i by omega]
        simpa [letters] using this
theorem Untouched.form {n : Nat} {dst : Nat → Nat} {t : List Value} {ds : List _} {a : Act} (h : Untouched n dst ⟨t.toArray, ds⟩ a) (m : List Bool) (hm : m.length = t.length) (hd : ∀ i, i < n → m.getD (dst i) true = true) :
    ∃ f : Nat → Value, (∀ i, i < n → a.tmps.getD (dst i) undef = f (dst i)) ∧ a = ⟨(letters f 0 m t).toArray, ds⟩ := by
  refine ⟨fun k => a.tmps.getD k undef, fun i hi => rfl, ?_⟩
  obtain ⟨hl, hg⟩ := letters_get (fun k => a.tmps.getD k undef) m t 0 hm
  have hts : a.tmps.size = t.length := by rw [h.ts]; simp
  have ht : a.tmps = (letters (fun k => a.tmps.getD k undef) 0 m t).toArray := by
    apply Array.ext
    · rw [hts, List.size_toArray, hl]
    · intro k h1 h2
      have hk : k < t.length := by omega
      have := hg k hk
      rw [List.getElem?_eq_getElem (by rw [hl]; exact hk)] at this
      simp only [List.getElem_toArray]
      rw [Option.some.inj this]
      cases hb : m.getD k false
      · have := h.other k (fun i hi e => by
          have := hd i hi
          rw [e] at this
          simp [List.getD, hm, hk] at this hb
          rw [this] at hb; cases hb)
        simp [h1, hk] at this
        simp [hk, this]
      · simp [h1]
  have hr := h.rest
  cases a with
  | mk tm df =>
    have : df = ds := congrArg Act.defers hr
    subst this
    simp only at ht
    rw [← ht]

/-- What an operation leaves; st: it stores (no temporary is written by it). -/
def TyPost (dst : Nat → Nat) (st : Nat → Bool) (R : Nat → Value → World → Prop) (G : Nat → World → Prop) (i k : Nat) (a : Act) (W : World) (a' : Act) (W' : World) : Prop :=
  G (k + 1) W' ∧ (∀ j v, j ≠ i → R j v W → R j v W') ∧ ((st i = false ∧ ∃ v, a' = a.put (some (dst i)) v ∧ R i v W') ∨ (a' = a ∧ R i (a.tmps.getD (dst i) undef) W'))
structure TyI (md : Region.Mode) (ops : Array Oper) (n : Nat) (dst : Nat → Nat) (R : Nat → Value → World → Prop) (G : Nat → World → Prop) (a0 : Act) (L : Array Bool) (a : Act) (W : World) : Prop where
  sz : L.size = n
  un : Untouched n dst a0 a
  g : ∃ k, k + unlisted ops L ≤ n ∧ G k W
  r : ∀ i, i < n → L.getD i false = true → R i (a.tmps.getD (dst i) undef) W
  cl : ∀ i, L.getD i false = true → ∀ o, ops[i]? = some o → ∀ e ∈ o.after, Region.binds md e = true → L.getD e.on false = true
/-- Operation i waits for operation j. -/
def Waits (md : Region.Mode) (ops : Array Oper) (i j : Nat) : Prop := ∃ o, ops[i]? = some o ∧ ∃ e ∈ o.after, Region.binds md e = true ∧ e.on = j
/-- A region is fit for the law below: operations wait for lower numbers alone; two operations that speak of one temporary, the latter of which writes it: the former waits for the latter. -/
def tidyB (md : Region.Mode) (ops : Array Oper) (n m : Nat) (dst : Nat → Nat) (st : Nat → Bool) : Bool :=
  lowB md ops && ((List.range n).all fun i => (st i || decide (dst i < m)) && (List.range n).all fun j => st j || dst i != dst j || i == j || ((ops[i]?).map fun o => o.after.any fun e => Region.binds md e && e.on == j).getD false)
theorem tidy_spec {md : Region.Mode} {ops : Array Oper} {n m : Nat} {dst : Nat → Nat} {st : Nat → Bool} (h : tidyB md ops n m dst st = true) :
    lowB md ops = true ∧ (∀ i, i < n → st i = false → dst i < m) ∧ ∀ i j, i < n → j < n → st j = false → dst i = dst j → i = j ∨ Waits md ops i j := by
  unfold tidyB at h
  rw [Bool.and_eq_true, List.all_eq_true] at h
  obtain ⟨h1, h2⟩ := h
  refine ⟨h1, fun i hi hs => ?_, fun i j hi hj hs hd => ?_⟩
  · have := h2 i (List.mem_range.2 hi)
    rw [Bool.and_eq_true, hs] at this
    simpa using this.1
  · have := h2 i (List.mem_range.2 hi)
    rw [Bool.and_eq_true, List.all_eq_true] at this
    have := this.2 j (List.mem_range.2 hj)
    rw [hs, hd] at this
    simp only [Bool.false_or, bne_self_eq_false, Bool.or_eq_true, beq_iff_eq] at this
    rcases this with h | h
    · exact .inl h
    · right
      cases ho : ops[i]? with
      | none => rw [ho] at h; cases h
      | some o =>
        rw [ho] at h
        simp only [Option.map_some, Option.getD_some, Array.any_eq_true'] at h
        obtain ⟨e, he, hb⟩ := h
        rw [Bool.and_eq_true, beq_iff_eq] at hb
        exact ⟨o, ho, e, he, hb.1, hb.2⟩
theorem wpAny_typed {P : Program} {md : Region.Mode} {ops : Array Oper} {Q : Exit → Act → World → Prop} (n : Nat) (dst : Nat → Nat) (st : Nat → Bool) (R : Nat → Value → World → Prop) (G : Nat → World → Prop) {a0 : Act} {w0 : World}
    (hn : ops.size = n) (m : Nat) (hm : a0.tmps.size = m) (htidy : tidyB md ops n m dst st = true) (hG : G 0 w0)
    (hend : ∀ a W, Untouched n dst a0 a → (∀ i, i < n → R i (a.tmps.getD (dst i) undef) W) → (∃ k, k ≤ n ∧ G k W) → Q .normal a W)
    (hstep : ∀ (i : Nat) (o : Oper), ops[i]? = some o → ∀ a W k, Untouched n dst a0 a → G k W → k < n → (∀ e ∈ o.after, Region.binds md e = true → R e.on (a.tmps.getD (dst e.on) undef) W) → wpOp P ops Q i (TyPost dst st R G i k a W) a W) :
    wpAny P md ops Q ops.size (Array.replicate ops.size false) a0 w0 := by
  obtain ⟨hlow', hin, hinj⟩ := tidy_spec htidy
  subst hm
  have hlow := lowB_spec hlow'
  have hz : ∀ k, (Array.replicate ops.size false).getD k false = false := by
    intro k
    rcases Nat.lt_or_ge k ops.size with h | h
    · simp [h]
    · simp [h]
  refine wpAny_inv (TyI md ops n dst R G a0) ?_ ?_ _ _ _ _ (unlisted_new ops) ⟨by simp [hn], Untouched.refl _ _ _, ⟨0, by have := unlisted_new ops; omega, hG⟩, (fun i _ h => by rw [hz i] at h; cases h), (fun i h => by rw [hz i] at h; cases h)⟩
  · intro L a W hr I
    have hall : ∀ i, i < n → L.getD i false = true := by
      intro i
      induction i using Nat.strongRecOn with
      | ind i ih =>
        intro hi
        obtain ⟨o, ho⟩ : ∃ o, ops[i]? = some o := ⟨ops[i]'(by omega), Array.getElem?_eq_getElem (by omega)⟩
        refine not_ready hr ho (by rw [I.sz, hn]) (fun e he hb => ih e.on (hlow i o ho e he hb) (by have := hlow i o ho e he hb; omega))
    obtain ⟨k, hk, hg⟩ := I.g
    exact hend a W I.un (fun i hi => I.r i hi (hall i hi)) ⟨k, by omega, hg⟩
  · intro L a W i hi I
    have hlt := unlisted_step hi
    obtain ⟨hun, o, ho, hall⟩ := mem_ready.1 hi
    have hin' : i < n := by rw [← hn]; exact (Array.getElem?_eq_some_iff.1 ho).1
    have hun' : L.getD i false = false := by
      have h := I.sz
      simp [h, hin'] at hun ⊢
      exact hun
    obtain ⟨k, hk, hg⟩ := I.g
    have hd : ∀ e ∈ o.after, Region.binds md e = true → R e.on (a.tmps.getD (dst e.on) undef) W := fun e he hb => I.r e.on (by have := hlow i o ho e he hb; omega) (hall e he hb)
    refine wpOp_mono (fun a' W' h' => ?_) (hstep i o ho a W k I.un hg (by omega) hd)
    obtain ⟨g', keep, hv⟩ := h'
    refine ⟨by simp [I.sz], ?_, ⟨k + 1, by omega, g'⟩, ?_, ?_⟩
    · rcases hv with ⟨_, v, rfl, _⟩ | ⟨rfl, _⟩
      · exact I.un.put hin' v
      · exact I.un
    · intro j hj hl
      by_cases e : i = j
      · subst e
        rcases hv with ⟨hs, v, rfl, hr⟩ | ⟨rfl, hr⟩
        · rw [tmp_put_self v (by rw [I.un.ts]; exact hin i hj hs)]; exact hr
        · exact hr
      · rw [getD_set_ne false e] at hl
        have h1 := I.r j hj hl
        rcases hv with ⟨hs, v, rfl, hr⟩ | ⟨rfl, hr⟩
        · rw [tmp_put_ne v ?_]
          · exact keep j _ (Ne.symm e) h1
          · intro h
            rcases hinj j i hj hin' hs h.symm with h2 | ⟨o', ho', e', he', hb', hi'⟩
            · exact e h2.symm
            · have := I.cl j hl o' ho' e' he' hb'
              rw [hi', hun'] at this
              cases this
        · exact keep j _ (Ne.symm e) h1
    · intro j hl o' ho' e' he' hb'
      by_cases e : i = j
      · subst e
        rw [ho] at ho'
        cases ho'
        exact getD_set_true (hall e' he' hb')
      · rw [getD_set_ne false e] at hl
        exact getD_set_true (I.cl j hl o' ho' e' he' hb')
end Go.Proofs.YthkpikkjgggimaaGreatDoor

namespace Go.Proofs.YthkpikkjgggimaaGreatDoor
open Go.RowKit
set_option linter.unusedVariables false
set_option linter.unusedSimpArgs false

/-- The same, where what holds of the world may speak of what has come up. -/
def TyPostL (dst : Nat → Nat) (st : Nat → Bool) (R : Nat → Value → World → Prop) (G : Array Bool → Nat → World → Prop) (i k : Nat) (L : Array Bool) (a : Act) (W : World) (a' : Act) (W' : World) : Prop :=
  G (L.setIfInBounds i true) (k + 1) W' ∧ (∀ j v, j ≠ i → R j v W → R j v W') ∧ ((st i = false ∧ ∃ v, a' = a.put (some (dst i)) v ∧ R i v W') ∨ (a' = a ∧ R i (a.tmps.getD (dst i) undef) W'))
structure TyIL (md : Region.Mode) (ops : Array Oper) (n : Nat) (dst : Nat → Nat) (R : Nat → Value → World → Prop) (G : Array Bool → Nat → World → Prop) (a0 : Act) (L : Array Bool) (a : Act) (W : World) : Prop where
  sz : L.size = n
  un : Untouched n dst a0 a
  g : ∃ k, k + unlisted ops L ≤ n ∧ G L k W
  r : ∀ i, i < n → L.getD i false = true → R i (a.tmps.getD (dst i) undef) W
  cl : ∀ i, L.getD i false = true → ∀ o, ops[i]? = some o → ∀ e ∈ o.after, Region.binds md e = true → L.getD e.on false = true
theorem wpAny_typedL {P : Program} {md : Region.Mode} {ops : Array Oper} {Q : Exit → Act → World → Prop} (n : Nat) (dst : Nat → Nat) (st : Nat → Bool) (R : Nat → Value → World → Prop) (G : Array Bool → Nat → World → Prop) {a0 : Act} {w0 : World}
    (hn : ops.size = n) (m : Nat) (hm : a0.tmps.size = m) (htidy : tidyB md ops n m dst st = true) (hG : G (Array.replicate n false) 0 w0)
    (hend : ∀ a W, Untouched n dst a0 a → (∀ i, i < n → R i (a.tmps.getD (dst i) undef) W) → (∃ L k, k ≤ n ∧ L.size = n ∧ (∀ i, i < n → L.getD i false = true) ∧ G L k W) → Q .normal a W)
    (hstep : ∀ (i : Nat) (o : Oper), ops[i]? = some o → ∀ L a W k, L.size = n → L.getD i false = false → (∀ j j', Waits md ops j j' → L.getD j false = true → L.getD j' false = true) → Untouched n dst a0 a → G L k W → k < n → (∀ e ∈ o.after, Region.binds md e = true → R e.on (a.tmps.getD (dst e.on) undef) W) → wpOp P ops Q i (TyPostL dst st R G i k L a W) a W) :
    wpAny P md ops Q ops.size (Array.replicate ops.size false) a0 w0 := by
  obtain ⟨hlow', hin, hinj⟩ := tidy_spec htidy
  subst hm
  have hlow := lowB_spec hlow'
  have hz : ∀ k, (Array.replicate ops.size false).getD k false = false := by
    intro k
    rcases Nat.lt_or_ge k ops.size with h | h
    · simp [h]
    · simp [h]
  refine wpAny_inv (TyIL md ops n dst R G a0) ?_ ?_ _ _ _ _ (unlisted_new ops) ⟨by simp [hn], Untouched.refl _ _ _, ⟨0, by have := unlisted_new ops; omega, by rw [hn]; exact hG⟩, (fun i _ h => by rw [hz i] at h; cases h), (fun i h => by rw [hz i] at h; cases h)⟩
  · intro L a W hr I
    have hall : ∀ i, i < n → L.getD i false = true := by
      intro i
      induction i using Nat.strongRecOn with
      | ind i ih =>
        intro hi
        obtain ⟨o, ho⟩ : ∃ o, ops[i]? = some o := ⟨ops[i]'(by omega), Array.getElem?_eq_getElem (by omega)⟩
        refine not_ready hr ho (by rw [I.sz, hn]) (fun e he hb => ih e.on (hlow i o ho e he hb) (by have := hlow i o ho e he hb; omega))
    obtain ⟨k, hk, hg⟩ := I.g
    exact hend a W I.un (fun i hi => I.r i hi (hall i hi)) ⟨L, k, by omega, I.sz, hall, hg⟩
  · intro L a W i hi I
    have hlt := unlisted_step hi
    obtain ⟨hun, o, ho, hall⟩ := mem_ready.1 hi
    have hin' : i < n := by rw [← hn]; exact (Array.getElem?_eq_some_iff.1 ho).1
    have hun' : L.getD i false = false := by
      have h := I.sz
      simp [h, hin'] at hun ⊢
      exact hun
    have hw : ∀ j j', Waits md ops j j' → L.getD j false = true → L.getD j' false = true := by
      rintro j j' ⟨o', ho', e', he', hb', hi'⟩ h
      have := I.cl j h o' ho' e' he' hb'
      rwa [hi'] at this
    obtain ⟨k, hk, hg⟩ := I.g
    have hd : ∀ e ∈ o.after, Region.binds md e = true → R e.on (a.tmps.getD (dst e.on) undef) W := fun e he hb => I.r e.on (by have := hlow i o ho e he hb; omega) (hall e he hb)
    refine wpOp_mono (fun a' W' h' => ?_) (hstep i o ho L a W k I.sz hun' hw I.un hg (by omega) hd)
    obtain ⟨g', keep, hv⟩ := h'
    refine ⟨by simp [I.sz], ?_, ⟨k + 1, by omega, g'⟩, ?_, ?_⟩
    · rcases hv with ⟨_, v, rfl, _⟩ | ⟨rfl, _⟩
      · exact I.un.put hin' v
      · exact I.un
    · intro j hj hl
      by_cases e : i = j
      · subst e
        rcases hv with ⟨hs, v, rfl, hr⟩ | ⟨rfl, hr⟩
        · rw [tmp_put_self v (by rw [I.un.ts]; exact hin i hj hs)]; exact hr
        · exact hr
      · rw [getD_set_ne false e] at hl
        have h1 := I.r j hj hl
        rcases hv with ⟨hs, v, rfl, hr⟩ | ⟨rfl, hr⟩
        · rw [tmp_put_ne v ?_]
          · exact keep j _ (Ne.symm e) h1
          · intro h
            rcases hinj j i hj hin' hs h.symm with h2 | ⟨o', ho', e', he', hb', hi'⟩
            · exact e h2.symm
            · have := I.cl j hl o' ho' e' he' hb'
              rw [hi', hun'] at this
              cases this
        · exact keep j _ (Ne.symm e) h1
    · intro j hl o' ho' e' he' hb'
      by_cases e : i = j
      · subst e
        rw [ho] at ho'
        cases ho'
        exact getD_set_true (hall e' he' hb')
      · rw [getD_set_ne false e] at hl
        exact getD_set_true (I.cl j hl o' ho' e' he' hb')
end Go.Proofs.YthkpikkjgggimaaGreatDoor
