/-
  A region that draws its order, by a condition that each operation keeps. No claim stands here.
-/
import Derived.Test.YtailpiagjemhpaaCopy2
namespace Go.Proofs.Ytailpiagjemhpaa
open Go.RowKit
set_option linter.unusedVariables false
set_option linter.unusedSimpArgs false

def unlisted (ops : Array Oper) (L : Array Bool) : Nat := (List.range ops.size).countP fun i => !L.getD i true
theorem countP_drop {p q : Nat → Bool} {i : Nat} (h0 : p i = true) (h1 : q i = false) (h : ∀ j, q j = true → p j = true) : ∀ l : List Nat, l.countP q ≤ l.countP p ∧ (i ∈ l → l.countP q < l.countP p) := by
  intro l
  induction l with
  | nil => exact ⟨Nat.le_refl _, by simp⟩
  | cons x l ih =>
    obtain ⟨a, b⟩ := ih
    simp only [List.countP_cons]
    constructor
    · cases hq : q x
      · simp; omega
      · simp [h x hq]; exact a
    · intro hm
      rcases List.mem_cons.1 hm with rfl | hm
      · simp [h0, h1]; omega
      · have := b hm
        cases hq : q x
        · simp; omega
        · simp [h x hq]; omega
theorem unlisted_step {md : Region.Mode} {ops : Array Oper} {L : Array Bool} {i : Nat} (hi : i ∈ Region.ready md ops L) : unlisted ops (L.setIfInBounds i true) < unlisted ops L := by
  obtain ⟨h0, o, ho, _⟩ := mem_ready.1 hi
  have hlt : i < ops.size := (Array.getElem?_eq_some_iff.1 ho).1
  refine (countP_drop (i := i) (by simpa using h0) ?_ ?_ _).2 (List.mem_range.2 hlt)
  · rcases Nat.lt_or_ge i L.size with h | h
    · simp [h]
    · simp [Array.getElem?_eq_none h] at h0
  · intro j hj
    by_cases hij : i = j
    · subst hij; simpa using h0
    · rw [getD_set_ne true hij] at hj; exact hj
theorem unlisted_zero {md : Region.Mode} {ops : Array Oper} {L : Array Bool} (h : unlisted ops L = 0) : Region.ready md ops L = [] := by
  rcases hr : Region.ready md ops L with _ | ⟨i, l⟩
  · rfl
  · have := unlisted_step (L := L) (i := i) (md := md) (ops := ops) (by rw [hr]; simp)
    omega
/-- A condition on what has come up, the frame and the world, that each operation keeps and that gives the end. -/
theorem wpAny_inv {P : Program} {md : Region.Mode} {ops : Array Oper} {Q : Exit → Act → World → Prop} (Inv : Array Bool → Act → World → Prop)
    (hend : ∀ L a w, Region.ready md ops L = [] → Inv L a w → Q .normal a w)
    (hstep : ∀ L a w i, i ∈ Region.ready md ops L → Inv L a w → wpOp P ops Q i (Inv (L.setIfInBounds i true)) a w) :
    ∀ fuel L a w, unlisted ops L ≤ fuel → Inv L a w → wpAny P md ops Q fuel L a w := by
  intro fuel
  induction fuel with
  | zero => intro L a w hf h; exact ⟨unlisted_zero (Nat.le_zero.1 hf), hend L a w (unlisted_zero (Nat.le_zero.1 hf)) h⟩
  | succ fuel ih =>
    intro L a w hf h
    exact ⟨fun hr => hend L a w hr h, fun i hi => wpOp_mono (fun a' w' h' => ih _ a' w' (by have := unlisted_step hi; omega) h') (hstep L a w i hi h)⟩
theorem getD_set_self {L : Array Bool} {i : Nat} (d : Bool) (h : i < L.size) : (L.setIfInBounds i true).getD i d = true := by simp [h]
theorem tmp_put_ne {a : Act} {d k : Nat} (v : Value) (h : d ≠ k) : (a.put (some d) v).tmps.getD k undef = a.tmps.getD k undef := by
  simp [Act.put, Array.getElem?_setIfInBounds_ne h]
theorem tmp_put_self {a : Act} {d : Nat} (v : Value) (h : d < a.tmps.size) : (a.put (some d) v).tmps.getD d undef = v := by
  simp [Act.put, h]
theorem wpOp_of {P : Program} {ops : Array Oper} {Q : Exit → Act → World → Prop} {i : Nat} {o : Oper} {K : Act → World → Prop} {a : Act} {w : World} (ho : ops[i]? = some o) (hg : o.guard = none) (h : Oper.wp P o a w K Q) : wpOp P ops Q i K a w := by
  unfold wpOp
  rw [ho]
  simp only
  rw [if_pos (by simp [Region.wanted, hg])]
  exact .inl h
theorem not_ready {md : Region.Mode} {ops : Array Oper} {L : Array Bool} (hr : Region.ready md ops L = []) {i : Nat} {o : Oper} (ho : ops[i]? = some o) (hs : L.size = ops.size) (hall : ∀ e ∈ o.after, Region.binds md e = true → L.getD e.on false = true) : L.getD i false = true := by
  cases h : L.getD i false
  · exfalso
    have hlt : i < L.size := hs ▸ (Array.getElem?_eq_some_iff.1 ho).1
    have : i ∈ Region.ready md ops L := mem_ready.2 ⟨by simp [hlt] at h ⊢; exact h, o, ho, hall⟩
    rw [hr] at this
    cases this
  · rfl
end Go.Proofs.Ytailpiagjemhpaa
