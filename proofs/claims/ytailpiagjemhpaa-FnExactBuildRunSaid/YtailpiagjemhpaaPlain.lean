/-
  Plain words on numbers, with no program in sight. No claim stands here.
-/
namespace Go.Proofs.Ytailpiagjemhpaa
set_option linter.unusedVariables false
set_option linter.unusedSimpArgs false
/-- All of the first n fulfil p. -/
def allB (p : Nat → Bool) : Nat → Bool
  | 0 => true
  | n + 1 => allB p n && p n
theorem allB_iff {p : Nat → Bool} {n : Nat} : allB p n = true ↔ ∀ i, i < n → p i = true := by
  induction n with
  | zero => simp [allB]
  | succ n ih =>
    simp only [allB, Bool.and_eq_true, ih]
    exact ⟨fun ⟨h, h'⟩ i hi => (Nat.lt_succ_iff_lt_or_eq.1 hi).elim (h i) (fun e => e ▸ h'), fun h => ⟨fun i hi => h i (by omega), h n (by omega)⟩⟩
theorem allB_no {p : Nat → Bool} {n k : Nat} (hk : k < n) (h : p k = false) : allB p n = false := by
  rw [Bool.eq_false_iff]
  intro h'
  rw [allB_iff.1 h' k hk] at h
  exact absurd h (by decide)
theorem allB_succ {p : Nat → Bool} {k : Nat} (h : allB p k = true) (h' : p k = true) : allB p (k + 1) = true := by simp [allB, h, h']

/-- lo ≤ n ≤ hi. -/
def inB (n lo hi : Int) : Bool := decide (lo ≤ n) && decide (n ≤ hi)
theorem inB_iff {n lo hi : Int} : inB n lo hi = true ↔ lo ≤ n ∧ n ≤ hi := by simp [inB]
theorem inB_no {n lo hi : Int} : inB n lo hi = false ↔ n < lo ∨ hi < n := by
  rw [← Bool.not_eq_true, inB_iff]; omega

/-- People by room, rounded up. -/
def roundUp (p r : Int) : Int := (p + r - 1) / r

/-- The sum of the first n numbers. -/
def sumTo (f : Nat → Int) : Nat → Int
  | 0 => 0
  | k + 1 => sumTo f k + f k
theorem sumTo_bound {f : Nat → Int} {n : Nat} {M : Int} (h : ∀ i, i < n → 0 ≤ f i ∧ f i ≤ M) : ∀ k, k ≤ n → 0 ≤ sumTo f k ∧ sumTo f k ≤ M * k := by
  intro k hk
  induction k with
  | zero => simp [sumTo]
  | succ k ih =>
    have a := ih (by omega)
    have b := h k (by omega)
    have e : M * ((k + 1 : Nat) : Int) = M * k + M := by rw [Int.natCast_add, Int.mul_add]; simp
    rw [e]
    simp only [sumTo]
    omega
theorem sumTo_congr {f g : Nat → Int} {n : Nat} (h : ∀ i, i < n → f i = g i) : sumTo f n = sumTo g n := by
  induction n with
  | zero => rfl
  | succ n ih => simp only [sumTo]; rw [ih (fun i hi => h i (by omega)), h n (by omega)]
theorem sumTo_add (f g : Nat → Int) (n : Nat) : sumTo (fun i => f i + g i) n = sumTo f n + sumTo g n := by
  induction n with
  | zero => rfl
  | succ n ih => simp only [sumTo]; rw [ih]; omega
theorem sumTo_zero (n : Nat) : sumTo (fun _ => 0) n = 0 := by
  induction n with
  | zero => rfl
  | succ n ih => simp only [sumTo]; rw [ih]; rfl
theorem sumTo_mono {f : Nat → Int} {n : Nat} (h : ∀ i, i < n → 0 ≤ f i) : ∀ j k, j ≤ k → k ≤ n → sumTo f j ≤ sumTo f k := by
  intro j k hjk hk
  induction k with
  | zero => obtain rfl : j = 0 := (by omega); exact Int.le_refl _
  | succ k ih =>
    by_cases e : j = k + 1
    · subst e; exact Int.le_refl _
    · have := ih (by omega) (by omega)
      have := h k (by omega)
      simp only [sumTo]; omega

/-- All numbers are in 0 .. bound - 1. -/
def withinP (f : Nat → Int) (bound : Int) (i : Nat) : Bool := inB (f i) 0 (bound - 1)

/-- The first place below n at which p holds; n if there is none. -/
def firstP (p : Nat → Bool) : Nat → Nat
  | 0 => 0
  | n + 1 => if firstP p n < n then firstP p n else if p n = true then n else n + 1
theorem firstP_spec (p : Nat → Bool) (n : Nat) : firstP p n ≤ n ∧ (∀ i, i < firstP p n → p i = false) ∧ (firstP p n < n → p (firstP p n) = true) := by
  induction n with
  | zero => simp [firstP]
  | succ n ih =>
    obtain ⟨h1, h2, h3⟩ := ih
    unfold firstP
    by_cases a : firstP p n < n
    · rw [if_pos a]; exact ⟨by omega, h2, fun _ => h3 a⟩
    · have e : firstP p n = n := by omega
      rw [if_neg a]
      by_cases b : p n = true
      · rw [if_pos b]; exact ⟨by omega, fun i hi => h2 i (by omega), fun _ => b⟩
      · rw [if_neg b]
        refine ⟨Nat.le_refl _, fun i hi => ?_, fun h => absurd h (Nat.lt_irrefl _)⟩
        by_cases e' : i = n
        · subst e'; simpa using b
        · exact h2 i (by omega)
theorem firstP_eq {p : Nat → Bool} {n k : Nat} (hk : k < n) (h : p k = true) (h' : ∀ i, i < k → p i = false) : firstP p n = k := by
  obtain ⟨h1, h2, h3⟩ := firstP_spec p n
  rcases Nat.lt_trichotomy (firstP p n) k with e | e | e
  · have := h3 (by omega); rw [h' _ e] at this; cases this
  · exact e
  · have := h2 k e; rw [h] at this; cases this
theorem firstP_lt {p : Nat → Bool} {n k : Nat} (hk : k < n) (h : p k = true) : firstP p n ≤ k := by
  obtain ⟨h1, h2, h3⟩ := firstP_spec p n
  refine Nat.le_of_not_lt fun hlt => ?_
  have := h2 k hlt; rw [h] at this; cases this
theorem firstP_ge {p : Nat → Bool} {n k : Nat} (hk : k ≤ n) (h : ∀ i, i < k → p i = false) : k ≤ firstP p n := by
  obtain ⟨h1, h2, h3⟩ := firstP_spec p n
  refine Nat.le_of_not_lt fun hlt => ?_
  have := h3 (by omega); rw [h _ hlt] at this; cases this

end Go.Proofs.Ytailpiagjemhpaa
