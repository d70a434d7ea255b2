/-
  A region that draws its order: what holds of the world may speak of what has come up. No claim stands here.
-/
import Derived.Test.YtnbjibkbjdbadaaTyped
namespace Go.Proofs.Ytnbjibkbjdbadaa
open Go.RowKit
set_option linter.unusedVariables false
set_option linter.unusedSimpArgs false

/-- The same, where what holds of the world may speak of what has come up. -/
def TyPostL (dst : Nat → Nat) (st : Nat → Bool) (R : Nat → Value → World → Prop) (G : Array Bool → Nat → World → Prop) (i k : Nat) (L : Array Bool) (a : Act) (W : World) (a' : Act) (W' : World) : Prop :=
  G (L.setIfInBounds i true) (k + 1) W' ∧ (∀ j v, j ≠ i → R j v W → R j v W') ∧ ((st i = false ∧ ∃ v, a' = a.put (some (dst i)) v ∧ R i v W') ∨ (a' = a ∧ R i (a.tmps.getD (dst i) undef) W'))
structure TyIL (md : Region.Mode) (ops : Array Oper) (n : Nat) (dst : Nat → Nat) (R : Nat → Value → World → Prop) (G : Array Bool → Nat → World → Prop) (a0 : Act) (L : Array Bool) (a : Act) (W : World) : Prop where
  sz : L.size = n
  un : Untouched n dst a0 a
  g : ∃ k, k + unlisted ops L ≤ n ∧ G L k W
  r : ∀ i, i < n → L.getD i false = true → R i (a.tmps.getD (dst i) undef) W
  cl : ∀ i, L.getD i false = true → ∀ o, ops[i]? = some o → ∀ e ∈ o.after, Region.binds md e = true → L.getD e.on false = true
theorem wpAny_typedL {P : Program} {md : Region.Mode} {ops : Array Oper} {Q : Exit → Act → World → Prop} (n : Nat) (dst : Nat → Nat) (st : Nat → Bool) (R : Nat → Value → World → Prop) (G : Array Bool → Nat → World → Prop) {a0 : Act} {w0 : World}
    (hn : ops.size = n) (m : Nat) (hm : a0.tmps.size = m) (htidy : tidyB md ops n m dst st = true) (hG : G (Array.replicate n false) 0 w0)
    (hend : ∀ a W, Untouched n dst a0 a → (∀ i, i < n → R i (a.tmps.getD (dst i) undef) W) → (∃ L k, k ≤ n ∧ L.size = n ∧ (∀ i, i < n → L.getD i false = true) ∧ G L k W) → Q .normal a W)
    (hstep : ∀ (i : Nat) (o : Oper), ops[i]? = some o → ∀ L a W k, L.size = n → L.getD i false = false → (∀ j j', Waits md ops j j' → L.getD j false = true → L.getD j' false = true) → Untouched n dst a0 a → G L k W → k < n → (∀ e ∈ o.after, Region.binds md e = true → R e.on (a.tmps.getD (dst e.on) undef) W) → wpOp P ops Q i (TyPostL dst st R G i k L a W) a W) :
    wpAny P md ops Q ops.size (Array.replicate ops.size false) a0 w0 := by
  obtain ⟨hlow', hin, hinj⟩ := tidy_spec htidy
  subst hm
  have hlow := lowB_spec hlow'
  have hz : ∀ k, (Array.replicate ops.size false).getD k false = false := by
    intro k
    rcases Nat.lt_or_ge k ops.size with h | h
    · simp [h]
    · simp [h]
  refine wpAny_inv (TyIL md ops n dst R G a0) ?_ ?_ _ _ _ _ (unlisted_new ops) ⟨by simp [hn], Untouched.refl _ _ _, ⟨0, by have := unlisted_new ops; omega, by rw [hn]; exact hG⟩, (fun i _ h => by rw [hz i] at h; cases h), (fun i h => by rw [hz i] at h; cases h)⟩
  · intro L a W hr I
    have hall : ∀ i, i < n → L.getD i false = true := by
      intro i
      induction i using Nat.strongRecOn with
      | ind i ih =>
        intro hi
        obtain ⟨o, ho⟩ : ∃ o, ops[i]? = some o := ⟨ops[i]'(by omega), Array.getElem?_eq_getElem (by omega)⟩
        refine not_ready hr ho (by rw [I.sz, hn]) (fun e he hb => ih e.on (hlow i o ho e he hb) (by have := hlow i o ho e he hb; omega))
    obtain ⟨k, hk, hg⟩ := I.g
    exact hend a W I.un (fun i hi => I.r i hi (hall i hi)) ⟨L, k, by omega, I.sz, hall, hg⟩
  · intro L a W i hi I
    have hlt := unlisted_step hi
    obtain ⟨hun, o, ho, hall⟩ := mem_ready.1 hi
    have hin' : i < n := by rw [← hn]; exact (Array.getElem?_eq_some_iff.1 ho).1
    have hun' : L.getD i false = false := by
      have h := I.sz
      simp [h, hin'] at hun ⊢
      exact hun
    have hw : ∀ j j', Waits md ops j j' → L.getD j false = true → L.getD j' false = true := by
      rintro j j' ⟨o', ho', e', he', hb', hi'⟩ h
      have := I.cl j h o' ho' e' he' hb'
      rwa [hi'] at this
    obtain ⟨k, hk, hg⟩ := I.g
    have hd : ∀ e ∈ o.after, Region.binds md e = true → R e.on (a.tmps.getD (dst e.on) undef) W := fun e he hb => I.r e.on (by have := hlow i o ho e he hb; omega) (hall e he hb)
    refine wpOp_mono (fun a' W' h' => ?_) (hstep i o ho L a W k I.sz hun' hw I.un hg (by omega) hd)
    obtain ⟨g', keep, hv⟩ := h'
    refine ⟨by simp [I.sz], ?_, ⟨k + 1, by omega, g'⟩, ?_, ?_⟩
    · rcases hv with ⟨_, v, rfl, _⟩ | ⟨rfl, _⟩
      · exact I.un.put hin' v
      · exact I.un
    · intro j hj hl
      by_cases e : i = j
      · subst e
        rcases hv with ⟨hs, v, rfl, hr⟩ | ⟨rfl, hr⟩
        · rw [tmp_put_self v (by rw [I.un.ts]; exact hin i hj hs)]; exact hr
        · exact hr
      · rw [getD_set_ne false e] at hl
        have h1 := I.r j hj hl
        rcases hv with ⟨hs, v, rfl, hr⟩ | ⟨rfl, hr⟩
        · rw [tmp_put_ne v ?_]
          · exact keep j _ (Ne.symm e) h1
          · intro h
            rcases hinj j i hj hin' hs h.symm with h2 | ⟨o', ho', e', he', hb', hi'⟩
            · exact e h2.symm
            · have := I.cl j hl o' ho' e' he' hb'
              rw [hi', hun'] at this
              cases this
        · exact keep j _ (Ne.symm e) h1
    · intro j hl o' ho' e' he' hb'
      by_cases e : i = j
      · subst e
        rw [ho] at ho'
        cases ho'
        exact getD_set_true (hall e' he' hb')
      · rw [getD_set_ne false e] at hl
        exact getD_set_true (I.cl j hl o' ho' e' he' hb')
end Go.Proofs.Ytnbjibkbjdbadaa
