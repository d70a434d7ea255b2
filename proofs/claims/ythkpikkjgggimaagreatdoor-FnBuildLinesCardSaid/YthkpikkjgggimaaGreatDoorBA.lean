/-
  Texts Plain, PeopleM, BuildM, Build2M in one. No claim stands here.
-/

namespace Go.Proofs.YthkpikkjgggimaaGreatDoor
set_option linter.unusedVariables false
set_option linter.unusedSimpArgs false
/-- All of the first n fulfil p. -/
def allB (p : Nat → Bool) : Nat → Bool
  | 0 => true
  | n + 1 => allB p n && p n
theorem allB_iff {p : Nat → Bool} {n : Nat} : allB p n = true ↔ ∀ i, i < n → p i = true := by
  induction n with
  | zero => simp [allB]
  | succ n ih =>
    simp only [allB, Bool.and_eq_true, ih]
    exact ⟨fun ⟨h, h'⟩ i hi => (Nat.lt_succ_iff_lt_or_eq.1 hi).elim (h i) (fun e => e ▸ h'), fun h => ⟨fun i hi => h i (by omega), h n (by omega)⟩⟩
theorem allB_no {p : Nat → Bool} {n k : Nat} (hk : k < n) (h : p k = false) : allB p n = false := by
  rw [Bool.eq_false_iff]
  intro h'
  rw [allB_iff.1 h' k hk] at h
  exact absurd h (by decide)
theorem allB_succ {p : Nat → Bool} {k : Nat} (h : allB p k = true) (h' : p k = true) : allB p (k + 1) = true := by simp [allB, h, h']

/-- lo ≤ n ≤ hi. -/
def inB (n lo hi : Int) : Bool := decide (lo ≤ n) && decide (n ≤ hi)
theorem inB_iff {n lo hi : Int} : inB n lo hi = true ↔ lo ≤ n ∧ n ≤ hi := by simp [inB]
theorem inB_no {n lo hi : Int} : inB n lo hi = false ↔ n < lo ∨ hi < n := by
  rw [← Bool.not_eq_true, inB_iff]; omega

/-- People by room, rounded up. -/
def roundUp (p r : Int) : Int := (p + r - 1) / r

/-- The sum of the first n numbers. -/
def sumTo (f : Nat → Int) : Nat → Int
  | 0 => 0
  | k + 1 => sumTo f k + f k
theorem sumTo_bound {f : Nat → Int} {n : Nat} {M : Int} (h : ∀ i, i < n → 0 ≤ f i ∧ f i ≤ M) : ∀ k, k ≤ n → 0 ≤ sumTo f k ∧ sumTo f k ≤ M * k := by
  intro k hk
  induction k with
  | zero => simp [sumTo]
  | succ k ih =>
    have a := ih (by omega)
    have b := h k (by omega)
    have e : M * ((k + 1 : Nat) : Int) = M * k + M := by rw [Int.natCast_add, Int.mul_add]; simp
    rw [e]
    simp only [sumTo]
    omega
theorem sumTo_congr {f g : Nat → Int} {n : Nat} (h : ∀ i, i < n → f i = g i) : sumTo f n = sumTo g n := by
  induction n with
  | zero => rfl
  | succ n ih => simp only [sumTo]; rw [ih (fun i hi => h i (by omega)), h n (by omega)]
theorem sumTo_add (f g : Nat → Int) (n : Nat) : sumTo (fun i => f i + g i) n = sumTo f n + sumTo g n := by
  induction n with
  | zero => rfl
  | succ n ih => simp only [sumTo]; rw [ih]; omega
theorem sumTo_zero (n : Nat) : sumTo (fun _ => 0) n = 0 := by
  induction n with
  | zero => rfl
  | succ n ih => simp only [sumTo]; rw [ih]; rfl
theorem sumTo_mono {f : Nat → Int} {n : Nat} (h : ∀ i, i < n → 0 ≤ f i) : ∀ j k, j ≤ k → k ≤ n → sumTo f j ≤ sumTo f k := by
  intro j k hjk hk
  induction k with
  | zero => obtain rfl : j = 0 := (by omega); exact Int.le_refl _
  | succ k ih =>
    by_cases e : j = k + 1
    · subst e; exact Int.le_refl _
    · have := ih (by omega) (by omega)
      have := h k (by omega)
      simp only [sumTo]; omega

/-- All numbers are in 0 .. bound - 1. -/
def withinP (f : Nat → Int) (bound : Int) (i : Nat) : Bool := inB (f i) 0 (bound - 1)

/-- The first place below n at which p holds; n if there is none. -/
def firstP (p : Nat → Bool) : Nat → Nat
  | 0 => 0
  | n + 1 => if firstP p n < n then firstP p n else if p n = true then n else n + 1
theorem firstP_spec (p : Nat → Bool) (n : Nat) : firstP p n ≤ n ∧ (∀ i, i < firstP p n → p i = false) ∧ (firstP p n < n → p (firstP p n) = true) := by
  induction n with
  | zero => simp [firstP]
  | succ n ih =>
    obtain ⟨h1, h2, h3⟩ := ih
    unfold firstP
    by_cases a : firstP p n < n
    · rw [if_pos a]; exact ⟨by omega, h2, fun _ => h3 a⟩
    · have e : firstP p n = n := by omega
      rw [if_neg a]
      by_cases b : p n = true
      · rw [if_pos b]; exact ⟨by omega, fun i hi => h2 i (by omega), fun _ => b⟩
      · rw [if_neg b]
        refine ⟨Nat.le_refl _, fun i hi => ?_, fun h => absurd h (Nat.lt_irrefl _)⟩
        by_cases e' : i = n
        · subst e'; simpa using b
        · exact h2 i (by omega)
theorem firstP_eq {p : Nat → Bool} {n k : Nat} (hk : k < n) (h : p k = true) (h' : ∀ i, i < k → p i = false) : firstP p n = k := by
  obtain ⟨h1, h2, h3⟩ := firstP_spec p n
  rcases Nat.lt_trichotomy (firstP p n) k with e | e | e
  · have := h3 (by omega); rw [h' _ e] at this; cases this
  · exact e
  · have := h2 k e; rw [h] at this; cases this
theorem firstP_lt {p : Nat → Bool} {n k : Nat} (hk : k < n) (h : p k = true) : firstP p n ≤ k := by
  obtain ⟨h1, h2, h3⟩ := firstP_spec p n
  refine Nat.le_of_not_lt fun hlt => ?_
  have := h2 k hlt; rw [h] at this; cases this
theorem firstP_ge {p : Nat → Bool} {n k : Nat} (hk : k ≤ n) (h : ∀ i, i < k → p i = false) : k ≤ firstP p n := by
  obtain ⟨h1, h2, h3⟩ := firstP_spec p n
  refine Nat.le_of_not_lt fun hlt => ?_
  have := h3 (by omega); rw [h _ hlt] at this; cases this

end Go.Proofs.YthkpikkjgggimaaGreatDoor

namespace Go.Proofs.YthkpikkjgggimaaGreatDoor
set_option linter.unusedVariables false
set_option linter.unusedSimpArgs false

/-- A floor is higher than the one below it. -/
def floorP (f : Nat → Int) (i : Nat) : Bool := decide (i = 0) || decide (f (i - 1) < f i)
def floorsB (f : Nat → Int) (n : Nat) : Bool := decide (1 ≤ n) && decide (n ≤ 8) && decide (f 0 = 0) && allB (floorP f) n && decide (f (n - 1) ≤ 60)
theorem floorsB_iff {f : Nat → Int} {n : Nat} : floorsB f n = true ↔ 1 ≤ n ∧ n ≤ 8 ∧ f 0 = 0 ∧ (∀ i, 0 < i → i < n → f (i - 1) < f i) ∧ f (n - 1) ≤ 60 := by
  simp only [floorsB, Bool.and_eq_true, decide_eq_true_eq, allB_iff, floorP, Bool.or_eq_true]
  constructor
  · rintro ⟨⟨⟨⟨a, b⟩, c⟩, d⟩, e⟩
    exact ⟨a, b, c, fun i h0 hi => by rcases d i hi with h | h <;> omega, e⟩
  · rintro ⟨a, b, c, d, e⟩
    refine ⟨⟨⟨⟨a, b⟩, c⟩, fun i hi => ?_⟩, e⟩
    by_cases h : i = 0
    · exact .inl h
    · exact .inr (d i (by omega) hi)
theorem floors_lt {f : Nat → Int} {n : Nat} (h : floorsB f n = true) : ∀ i j, i < j → j < n → f i < f j := by
  intro i j hij hj
  induction j with
  | zero => omega
  | succ j ih =>
    have h1 := (floorsB_iff.1 h).2.2.2.1 (j + 1) (by omega) hj
    rw [Nat.add_sub_cancel] at h1
    by_cases e : i = j
    · subst e; exact h1
    · have := ih (by omega) (by omega); omega
theorem floors_bound {f : Nat → Int} {n : Nat} (h : floorsB f n = true) : ∀ i, i < n → 0 ≤ f i ∧ f i ≤ 60 := by
  intro i hi
  obtain ⟨a, b, c, d, e⟩ := floorsB_iff.1 h
  have hl := floors_lt h
  constructor
  · by_cases e' : i = 0
    · subst e'; omega
    · have := hl 0 i (by omega) hi; omega
  · by_cases e' : i = n - 1
    · subst e'; exact e
    · have := hl i (n - 1) (by omega) (by omega); omega
/-- The reference asks the bounds of every floor. -/
def floorQ (f : Nat → Int) (i : Nat) : Bool := inB (f i) 0 60 && (decide (i = 0) || decide (f (i - 1) < f i))
theorem floorsB_spec {f : Nat → Int} {n : Nat} : floorsB f n = (allB (floorQ f) n && decide (1 ≤ n) && decide (n ≤ 8) && decide (f 0 = 0)) := by
  rw [Bool.eq_iff_iff]
  simp only [Bool.and_eq_true, decide_eq_true_eq, allB_iff, floorQ, Bool.or_eq_true, inB_iff]
  constructor
  · intro h
    have hb := floors_bound h
    obtain ⟨a, b, c, d, e⟩ := floorsB_iff.1 h
    refine ⟨⟨⟨fun i hi => ⟨hb i hi, ?_⟩, a⟩, b⟩, c⟩
    by_cases e' : i = 0
    · exact .inl e'
    · exact .inr (d i (by omega) hi)
  · rintro ⟨⟨⟨h, a⟩, b⟩, c⟩
    refine floorsB_iff.2 ⟨a, b, c, fun i h0 hi => ?_, (h (n - 1) (by omega)).1.2⟩
    rcases (h i hi).2 with h' | h' <;> omega

/-- The floor at a height. -/
def heightP (f : Nat → Int) (a : Int) (i : Nat) : Bool := f i == a
def floorAtOf (f : Nat → Int) (n : Nat) (a : Int) : Int := if floorsB f n = true ∧ firstP (heightP f a) n < n then (firstP (heightP f a) n : Nat) else -1
theorem floorAt_no {f : Nat → Int} {n : Nat} {a : Int} (h : floorsB f n = false) : floorAtOf f n a = -1 := by simp [floorAtOf, h]
theorem floorAt_none {f : Nat → Int} {n : Nat} {a : Int} (h : ∀ i, i < n → heightP f a i = false) : floorAtOf f n a = -1 := by
  have := firstP_ge (n := n) (Nat.le_refl n) h
  unfold floorAtOf
  rw [if_neg (by omega)]
theorem floorAt_hit {f : Nat → Int} {n k : Nat} {a : Int} (hv : floorsB f n = true) (hk : k < n) (h : heightP f a k = true) (h' : ∀ i, i < k → heightP f a i = false) : floorAtOf f n a = k := by
  have := firstP_eq hk h h'
  unfold floorAtOf
  rw [this, if_pos ⟨hv, hk⟩]

def peopleB (f : Nat → Int) (n : Nat) (p : Nat → Int) (m : Nat) (r : Int) : Bool := floorsB f n && (m == n) && allB (withinP p 31) m && inB r 1 8
theorem peopleB_iff {f : Nat → Int} {n : Nat} {p : Nat → Int} {m : Nat} {r : Int} :
    peopleB f n p m r = true ↔ floorsB f n = true ∧ m = n ∧ (∀ i, i < m → 0 ≤ p i ∧ p i ≤ 30) ∧ 1 ≤ r ∧ r ≤ 8 := by
  simp only [peopleB, Bool.and_eq_true, beq_iff_eq, allB_iff, withinP, inB_iff, and_assoc]
  constructor
  · rintro ⟨a, b, c, d⟩; exact ⟨a, b, fun i hi => by have := c i hi; omega, d⟩
  · rintro ⟨a, b, c, d⟩; exact ⟨a, b, fun i hi => by have := c i hi; omega, d⟩

theorem roundUp_zero {r : Int} (h : 1 ≤ r) : roundUp 0 r = 0 := by
  unfold roundUp; exact Int.ediv_eq_zero_of_lt (by omega) (by omega)
theorem roundUp_key {p r k : Int} (h : 1 ≤ r) : roundUp p r ≤ k ↔ p ≤ k * r := by
  unfold roundUp
  have h1 := Int.ediv_lt_iff_lt_mul (a := p + r - 1) (b := k + 1) (c := r) (by omega)
  have e : (k + 1) * r = k * r + r := by rw [Int.add_mul]; simp
  rw [e] at h1
  constructor
  · intro h'; have := h1.1 (by omega); omega
  · intro h'; have := h1.2 (by omega); omega
theorem roundUp_self {p r : Int} (h : 1 ≤ r) : p ≤ roundUp p r * r := (roundUp_key h).1 (Int.le_refl _)
theorem roundUp_lt {p r k : Int} (h : 1 ≤ r) : k < roundUp p r ↔ k * r < p := by
  have := roundUp_key (p := p) (k := k) h; omega
theorem roundUp_mono {p q r : Int} (h : 1 ≤ r) (hpq : p ≤ q) : roundUp p r ≤ roundUp q r := by
  have := roundUp_self (p := q) h
  exact (roundUp_key h).2 (by omega)
theorem roundUp_nonneg {p r : Int} (h : 1 ≤ r) (hp : 0 ≤ p) : 0 ≤ roundUp p r := by
  have := roundUp_mono h hp; rw [roundUp_zero h] at this; exact this
theorem roundUp_le {p r : Int} (h : 1 ≤ r) (hp : 0 ≤ p) : roundUp p r ≤ p := by
  refine (roundUp_key h).2 ?_
  have := Int.mul_le_mul_of_nonneg_left h hp
  omega
theorem roundUp_pos {p r : Int} (h : 1 ≤ r) : 0 < roundUp p r ↔ 0 < p := by
  have := roundUp_lt (p := p) (k := 0) h; omega
theorem roundUp_add {p q r : Int} (h : 1 ≤ r) : roundUp (p + q) r ≤ roundUp p r + roundUp q r := by
  refine (roundUp_key h).2 ?_
  have := roundUp_self (p := p) h
  have := roundUp_self (p := q) h
  rw [Int.add_mul]; omega
theorem roundUp_room {p r : Int} (h : 1 ≤ r) (hp : 0 ≤ p) : roundUp p (r + 1) ≤ roundUp p r := by
  refine (roundUp_key (by omega)).2 ?_
  have := roundUp_self (p := p) h
  have := roundUp_nonneg h hp
  rw [Int.mul_add]; omega
theorem roundUp_less {p r : Int} (h : 1 ≤ r) (hp : 1 ≤ p) : roundUp (max (p - r) 0) r = roundUp p r - 1 := by
  have a := roundUp_self (p := p) h
  have b := (roundUp_pos (p := p) h).2 (by omega)
  have e : (roundUp p r - 1) * r = roundUp p r * r - r := by rw [Int.sub_mul]; simp
  apply Int.le_antisymm
  · refine (roundUp_key h).2 ?_
    have : 0 ≤ (roundUp p r - 1) * r := Int.mul_nonneg (by omega) (by omega)
    omega
  · have c := (roundUp_key (p := p) (k := roundUp (max (p - r) 0) r + 1) h).2 (by
      have := roundUp_self (p := max (p - r) 0) h
      rw [Int.add_mul]; omega)
    omega

/-- The sum of the ways to each floor alone. -/
def clearTo (f p : Nat → Int) (r : Int) : Nat → Int
  | 0 => 0
  | k + 1 => clearTo f p r k + roundUp (p k) r * 2 * f k
def clearOf (f : Nat → Int) (n : Nat) (p : Nat → Int) (m : Nat) (r : Int) : Int := if peopleB f n p m r = true then clearTo f p r n else -1
/-- The people from floor k on. -/
def suf (p : Nat → Int) (n k : Nat) : Int := sumTo p n - sumTo p k
/-- The bound from below, its first d steps of the height. -/
def leastTo (f p : Nat → Int) (r : Int) (n : Nat) : Nat → Int
  | 0 => 0
  | d + 1 => leastTo f p r n d + 2 * roundUp (suf p n (d + 1)) r * (f (d + 1) - f d)
def leastOf (f : Nat → Int) (n : Nat) (p : Nat → Int) (m : Nat) (r : Int) : Int := if peopleB f n p m r = true then leastTo f p r n (n - 1) else -1
theorem clearOf_yes {f : Nat → Int} {n : Nat} {p : Nat → Int} {m : Nat} {r : Int} (h : peopleB f n p m r = true) : clearOf f n p m r = clearTo f p r n := by simp [clearOf, h]
theorem clearOf_no {f : Nat → Int} {n : Nat} {p : Nat → Int} {m : Nat} {r : Int} (h : peopleB f n p m r = false) : clearOf f n p m r = -1 := by simp [clearOf, h]
theorem leastOf_yes {f : Nat → Int} {n : Nat} {p : Nat → Int} {m : Nat} {r : Int} (h : peopleB f n p m r = true) : leastOf f n p m r = leastTo f p r n (n - 1) := by simp [leastOf, h]
theorem leastOf_no {f : Nat → Int} {n : Nat} {p : Nat → Int} {m : Nat} {r : Int} (h : peopleB f n p m r = false) : leastOf f n p m r = -1 := by simp [leastOf, h]

theorem suf_succ (p : Nat → Int) (n k : Nat) : suf p n k = suf p n (k + 1) + p k := by simp only [suf, sumTo]; omega
theorem suf_top (p : Nat → Int) (n : Nat) : suf p n n = 0 := by simp [suf]
theorem suf_bound {p : Nat → Int} {n : Nat} (h : ∀ i, i < n → 0 ≤ p i ∧ p i ≤ 30) (hn : n ≤ 8) : ∀ k, k ≤ n → 0 ≤ suf p n k ∧ suf p n k ≤ 240 := by
  intro k hk
  have a := sumTo_mono (fun i hi => (h i hi).1) k n hk (Nat.le_refl _)
  have b := sumTo_bound h n (Nat.le_refl _)
  have c := sumTo_bound h k hk
  unfold suf
  omega
theorem clearTo_bound {f p : Nat → Int} {r : Int} {n : Nat} (hf : ∀ i, i < n → 0 ≤ f i ∧ f i ≤ 60) (hp : ∀ i, i < n → 0 ≤ p i ∧ p i ≤ 30) (hr : 1 ≤ r) : ∀ k, k ≤ n → 0 ≤ clearTo f p r k ∧ clearTo f p r k ≤ 3600 * k := by
  intro k hk
  induction k with
  | zero => simp [clearTo]
  | succ k ih =>
    have a := ih (by omega)
    have b := hf k (by omega)
    have c := hp k (by omega)
    have d := roundUp_nonneg hr c.1
    have e := roundUp_le hr c.1
    have g : roundUp (p k) r * 2 * f k ≤ 60 * 60 := Int.mul_le_mul (by omega) b.2 b.1 (by omega)
    have g' : 0 ≤ roundUp (p k) r * 2 * f k := Int.mul_nonneg (by omega) b.1
    simp only [clearTo, Int.natCast_add]
    omega
theorem leastTo_step {f p : Nat → Int} {r : Int} {n d : Nat} (hf : ∀ i j, i < j → j < n → f i < f j) (hb : ∀ i, i < n → 0 ≤ f i ∧ f i ≤ 60) (hs : ∀ k, k ≤ n → 0 ≤ suf p n k ∧ suf p n k ≤ 240) (hr : 1 ≤ r) (hd : d + 1 < n) :
    0 ≤ 2 * roundUp (suf p n (d + 1)) r * (f (d + 1) - f d) ∧ 2 * roundUp (suf p n (d + 1)) r * (f (d + 1) - f d) ≤ 28800 := by
  have a := hs (d + 1) (by omega)
  have b := roundUp_nonneg hr a.1
  have c := roundUp_le hr a.1
  have e := hf d (d + 1) (by omega) hd
  have g := hb d (by omega)
  have g' := hb (d + 1) hd
  constructor
  · exact Int.mul_nonneg (by omega) (by omega)
  · exact Int.mul_le_mul (c := 480) (d := 60) (by omega) (by omega) (by omega) (by omega)
theorem leastTo_bound {f p : Nat → Int} {r : Int} {n : Nat} (hf : ∀ i j, i < j → j < n → f i < f j) (hb : ∀ i, i < n → 0 ≤ f i ∧ f i ≤ 60) (hs : ∀ k, k ≤ n → 0 ≤ suf p n k ∧ suf p n k ≤ 240) (hr : 1 ≤ r) :
    ∀ d, d + 1 ≤ n → 0 ≤ leastTo f p r n d ∧ leastTo f p r n d ≤ 28800 * d := by
  intro d hd
  induction d with
  | zero => simp [leastTo]
  | succ d ih =>
    have a := ih (by omega)
    have b := leastTo_step hf hb hs hr (d := d) (by omega)
    simp only [leastTo, Int.natCast_add]
    omega
theorem leastTo_mono {f p : Nat → Int} {r : Int} {n : Nat} (hf : ∀ i j, i < j → j < n → f i < f j) (hb : ∀ i, i < n → 0 ≤ f i ∧ f i ≤ 60) (hs : ∀ k, k ≤ n → 0 ≤ suf p n k ∧ suf p n k ≤ 240) (hr : 1 ≤ r) :
    ∀ d e, d ≤ e → e + 1 ≤ n → leastTo f p r n d ≤ leastTo f p r n e := by
  intro d e hde he
  induction e with
  | zero => obtain rfl : d = 0 := (by omega); exact Int.le_refl _
  | succ e ih =>
    by_cases h : d = e + 1
    · subst h; exact Int.le_refl _
    · have a := ih (by omega) (by omega)
      have b := leastTo_step hf hb hs hr (d := e) (by omega)
      simp only [leastTo]
      omega

/-- LeastWays is at most ClearWays. -/
def tailTo (f p : Nat → Int) (r : Int) (n : Nat) : Nat → Int
  | 0 => 0
  | d + 1 => tailTo f p r n d + 2 * (sumTo (fun i => roundUp (p i) r) n - sumTo (fun i => roundUp (p i) r) (d + 1)) * (f (d + 1) - f d)
theorem roundUp_suf {p : Nat → Int} {r : Int} {n : Nat} (hr : 1 ≤ r) : ∀ k j, k + j = n → roundUp (suf p n k) r ≤ sumTo (fun i => roundUp (p i) r) n - sumTo (fun i => roundUp (p i) r) k := by
  intro k j
  induction j generalizing k with
  | zero =>
    intro h
    obtain rfl : k = n := by omega
    rw [suf_top, roundUp_zero hr]; omega
  | succ j ih =>
    intro h
    have a := ih (k + 1) (by omega)
    have b := roundUp_add (p := suf p n (k + 1)) (q := p k) hr
    rw [← suf_succ] at b
    simp only [sumTo] at a
    omega
/-- The ways, floor by floor, are those of each step of the height. -/
theorem clear_tail {f p : Nat → Int} {r : Int} (h0 : f 0 = 0) : ∀ n, clearTo f p r (n + 1) = tailTo f p r (n + 1) n := by
  have key : ∀ (q : Nat → Int) (n d : Nat), tailTo f p r (n + 1) d + 2 * (sumTo (fun i => roundUp (p i) r) (n + 2) - sumTo (fun i => roundUp (p i) r) (n + 1)) * (f d - f 0) = tailTo f p r (n + 2) d := by
    intro q n d
    induction d with
    | zero => simp [tailTo]
    | succ d ih =>
      simp only [tailTo]
      rw [← ih]
      generalize sumTo (fun i => roundUp (p i) r) (n + 2) = S2
      generalize sumTo (fun i => roundUp (p i) r) (n + 1) = S1
      generalize sumTo (fun i => roundUp (p i) r) (d + 1) = Sd
      generalize tailTo f p r (n + 1) d = T
      generalize f (d + 1) = a
      generalize f d = b
      generalize f 0 = c
      simp only [Int.mul_sub, Int.sub_mul]
      omega
  intro n
  induction n with
  | zero => simp [clearTo, tailTo, h0]
  | succ n ih =>
    have e1 : clearTo f p r (n + 2) = clearTo f p r (n + 1) + roundUp (p (n + 1)) r * 2 * f (n + 1) := rfl
    rw [e1, ih]
    show _ = tailTo f p r (n + 2) n + 2 * (sumTo (fun i => roundUp (p i) r) (n + 2) - sumTo (fun i => roundUp (p i) r) (n + 1)) * (f (n + 1) - f n)
    rw [← key (fun _ => 0) n n, h0]
    have e2 : sumTo (fun i => roundUp (p i) r) (n + 2) - sumTo (fun i => roundUp (p i) r) (n + 1) = roundUp (p (n + 1)) r := by
      simp only [sumTo]; omega
    rw [e2]
    generalize roundUp (p (n + 1)) r = R
    generalize tailTo f p r (n + 1) n = T
    generalize f (n + 1) = a
    generalize f n = b
    rw [Int.sub_zero, Int.mul_sub, Int.mul_comm R 2]
    omega
theorem least_le_tail {f p : Nat → Int} {r : Int} {n : Nat} (hf : ∀ i j, i < j → j < n → f i < f j) (hr : 1 ≤ r) : ∀ d, d + 1 ≤ n → leastTo f p r n d ≤ tailTo f p r n d := by
  intro d hd
  induction d with
  | zero => simp [leastTo, tailTo]
  | succ d ih =>
    have a := ih (by omega)
    have b := roundUp_suf (p := p) (n := n) hr (d + 1) (n - (d + 1)) (by omega)
    have c := hf d (d + 1) (by omega) (by omega)
    simp only [leastTo, tailTo]
    have : 2 * roundUp (suf p n (d + 1)) r * (f (d + 1) - f d) ≤ 2 * (sumTo (fun i => roundUp (p i) r) n - sumTo (fun i => roundUp (p i) r) (d + 1)) * (f (d + 1) - f d) :=
      Int.mul_le_mul_of_nonneg_right (by omega) (by omega)
    omega
theorem least_le_clear {f : Nat → Int} {n : Nat} {p : Nat → Int} {m : Nat} {r : Int} (h : peopleB f n p m r = true) : leastOf f n p m r ≤ clearOf f n p m r := by
  rw [leastOf_yes h, clearOf_yes h]
  obtain ⟨hfl, _, _, hr, _⟩ := peopleB_iff.1 h
  obtain ⟨h1, _, h0, _⟩ := floorsB_iff.1 hfl
  have a := least_le_tail (p := p) (floors_lt hfl) hr (n - 1) (by omega)
  have b := clear_tail (p := p) (r := r) h0 (n - 1)
  rw [show n - 1 + 1 = n by omega] at b
  rw [b]; exact a

/-- One trip to floor t, behind which nobody waits above it. -/
theorem least_trip {f L L' : Nat → Int} {r : Int} {n t : Nat} (hr : 1 ≤ r) (ht : t < n) (h0 : f 0 = 0) (hL : ∀ k, 1 ≤ k → k ≤ t → 1 ≤ suf L n k)
    (hz : ∀ k, t < k → k ≤ n → suf L n k = 0) (hL' : ∀ k, 1 ≤ k → k ≤ n → suf L' n k = max (suf L n k - r) 0) :
    leastTo f L r n (n - 1) = leastTo f L' r n (n - 1) + 2 * f t := by
  have key : ∀ d, d + 1 ≤ n → leastTo f L r n d = leastTo f L' r n d + 2 * f (min d t) := by
    intro d hd
    induction d with
    | zero => simp [leastTo, h0]
    | succ d ih =>
      have a := ih (by omega)
      simp only [leastTo]
      rw [hL' (d + 1) (by omega) (by omega), a]
      by_cases e : d + 1 ≤ t
      · rw [roundUp_less hr (hL (d + 1) (by omega) e), show min d t = d by omega, show min (d + 1) t = d + 1 by omega]
        generalize roundUp (suf L n (d + 1)) r = R
        generalize f (d + 1) = x
        generalize f d = y
        have : 2 * (R - 1) * (x - y) = 2 * R * (x - y) - 2 * (x - y) := by rw [Int.mul_sub 2, Int.sub_mul]; omega
        omega
      · rw [hz (d + 1) (by omega) (by omega), show min d t = t by omega, show min (d + 1) t = t by omega, show max (0 - r) 0 = 0 by omega]
        omega
  have a := key (n - 1) (by omega)
  rwa [show min (n - 1) t = t by omega] at a
/-- Where nobody waits above floor 0, nothing is left to go. -/
theorem least_none {f L : Nat → Int} {r : Int} {n : Nat} (hr : 1 ≤ r) (hz : ∀ k, 1 ≤ k → k ≤ n → suf L n k = 0) : ∀ d, d + 1 ≤ n → leastTo f L r n d = 0 := by
  intro d hd
  induction d with
  | zero => rfl
  | succ d ih =>
    simp only [leastTo]
    rw [ih (by omega), hz (d + 1) (by omega) (by omega), roundUp_zero hr]; simp

/-- The people from place k to t1. -/
def seg (L : Nat → Int) (k t1 : Nat) : Int := sumTo L t1 - sumTo L k
theorem seg_self (L : Nat → Int) (k : Nat) : seg L k k = 0 := by simp [seg]
theorem seg_step (L : Nat → Int) (k t1 : Nat) : seg L k t1 = L k + seg L (k + 1) t1 := by simp only [seg, sumTo]; omega
theorem seg_congr {L L' : Nat → Int} {k t1 : Nat} (hk : k ≤ t1) (h : ∀ i, k ≤ i → i < t1 → L i = L' i) : seg L k t1 = seg L' k t1 := by
  induction t1 with
  | zero => obtain rfl : k = 0 := (by omega); simp [seg_self]
  | succ t ih =>
    by_cases e : k = t + 1
    · subst e; simp [seg_self]
    · have a := ih (by omega) (fun i h1 h2 => h i h1 (by omega))
      have b := h t (by omega) (by omega)
      simp only [seg, sumTo] at a ⊢
      omega
theorem seg_nonneg {L : Nat → Int} {n : Nat} (h : ∀ i, i < n → 0 ≤ L i) {k t1 : Nat} (hk : k ≤ t1) (ht : t1 ≤ n) : 0 ≤ seg L k t1 := by
  have := sumTo_mono h k t1 hk ht
  unfold seg; omega

/-- While a car is filled from floor t downward, r of room: the places from e on are done; L was there, Lc is there now; R is the room that is left. -/
structure TakeInv (L Lc : Nat → Int) (n t e : Nat) (r R : Int) : Prop where
  le : ∀ i, i < n → 0 ≤ Lc i ∧ Lc i ≤ L i
  lo : ∀ i, i < e → Lc i = L i
  hi : ∀ i, t < i → i < n → Lc i = L i
  sg : ∀ k, e ≤ k → k ≤ t → seg Lc k (t + 1) = max (seg L k (t + 1) - r) 0
  rm : R = max (r - seg L e (t + 1)) 0
theorem take_start {L : Nat → Int} {n t : Nat} {r : Int} (hL : ∀ i, i < n → 0 ≤ L i) (hr : 0 ≤ r) : TakeInv L L n t (t + 1) r r :=
  ⟨fun i hi => ⟨hL i hi, Int.le_refl _⟩, fun _ _ => rfl, fun _ _ _ => rfl, fun k h1 h2 => by omega, by rw [seg_self]; omega⟩
theorem take_step {L Lc Ln : Nat → Int} {n t j : Nat} {r R x : Int} (h : TakeInv L Lc n t (j + 1) r R) (hj : j ≤ t) (ht : t < n) (hr : 0 ≤ r) (hL : ∀ i, i < n → 0 ≤ L i)
    (hx : x = min (L j) R) (hn : ∀ i, i < n → Ln i = if i = j then L j - x else Lc i) : TakeInv L Ln n t j r (R - x) := by
  have hnn := seg_nonneg (L := L) hL (k := j + 1) (t1 := t + 1) (by omega) (by omega)
  have hst := seg_step L j (t + 1)
  have hrm := h.rm
  have hlj := hL j (by omega)
  refine ⟨fun i hi => ?_, fun i hi => ?_, fun i h1 h2 => ?_, fun k h1 h2 => ?_, by omega⟩
  · rw [hn i hi]
    split
    · rename_i e; subst e; omega
    · exact h.le i hi
  · rw [hn i (by omega), if_neg (by omega)]; exact h.lo i (by omega)
  · rw [hn i h2, if_neg (by omega)]; exact h.hi i h1 h2
  · have key : ∀ k, j + 1 ≤ k → k ≤ t + 1 → seg Ln k (t + 1) = seg Lc k (t + 1) := fun k h1 h2 => seg_congr h2 (fun i a b => by rw [hn i (by omega), if_neg (by omega)])
    by_cases e : k = j
    · subst e
      have a := seg_step Ln k (t + 1)
      rw [key (k + 1) (Nat.le_refl _) (by omega), hn k (by omega), if_pos rfl] at a
      by_cases e2 : k = t
      · subst e2
        rw [seg_self] at a hst hrm hnn
        omega
      · have b := h.sg (k + 1) (Nat.le_refl _) (by omega)
        omega
    · rw [key k (by omega) (by omega)]; exact h.sg k (by omega) h2

/-- A trip to floor t, above which nobody waits. -/
theorem trip_least {f L L' : Nat → Int} {r : Int} {n t e : Nat} (hr : 1 ≤ r) (ht : t < n) (h0 : f 0 = 0) (hL : ∀ i, i < n → 0 ≤ L i) (hz : ∀ i, t < i → i < n → L i = 0) (hp : 0 < L t) {R : Int}
    (h : TakeInv L L' n t e r R) (he : e ≤ 1) : leastTo f L r n (n - 1) = leastTo f L' r n (n - 1) + 2 * f t := by
  have hzs : ∀ (X : Nat → Int), (∀ i, t < i → i < n → X i = 0) → ∀ k, t < k → k ≤ n → suf X n k = 0 := by
    intro X hX k h1 h2
    have a := seg_congr (L := X) (L' := fun _ => 0) (k := k) (t1 := n) h2 (fun i a b => hX i (by omega) b)
    have b : seg (fun _ => 0) k n = 0 := by unfold seg; rw [sumTo_zero, sumTo_zero]; rfl
    rw [b] at a; exact a
  have hz' : ∀ i, t < i → i < n → L' i = 0 := fun i h1 h2 => by rw [h.hi i h1 h2]; exact hz i h1 h2
  have split : ∀ (X : Nat → Int), (∀ i, t < i → i < n → X i = 0) → ∀ k, k ≤ t → suf X n k = seg X k (t + 1) := by
    intro X hX k h1
    have a := hzs X hX (t + 1) (by omega) (by omega)
    unfold suf at a ⊢; unfold seg; omega
  refine least_trip hr ht h0 (fun k h1 h2 => ?_) (hzs L hz) (fun k h1 h2 => ?_)
  · rw [split L hz k h2]
    have a := seg_nonneg (L := L) hL (k := k) (t1 := t) h2 (by omega)
    simp only [seg, sumTo] at a ⊢
    omega
  · by_cases hkt : k ≤ t
    · rw [split L hz k hkt, split L' hz' k hkt]
      exact h.sg k (by omega) hkt
    · rw [hzs L hz k (by omega) h2, hzs L' hz' k (by omega) h2]; omega
/-- It takes somebody from there. -/
theorem trip_less {L L' : Nat → Int} {r : Int} {n t e : Nat} (hr : 1 ≤ r) (hp : 0 < L t) {R : Int} (h : TakeInv L L' n t e r R) (he : e ≤ t) : L' t < L t := by
  have a := h.sg t he (Nat.le_refl _)
  rw [seg_step L t (t + 1), seg_step L' t (t + 1), seg_self, seg_self] at a
  omega
theorem none_least {f L : Nat → Int} {r : Int} {n : Nat} (hr : 1 ≤ r) (hn : 1 ≤ n) (hz : ∀ i, 1 ≤ i → i < n → L i = 0) : leastTo f L r n (n - 1) = 0 := by
  refine least_none hr (fun k h1 h2 => ?_) (n - 1) (by omega)
  have a := seg_congr (L := L) (L' := fun _ => 0) (k := k) (t1 := n) h2 (fun i a b => hz i (by omega) b)
  have b : seg (fun _ => 0) k n = 0 := by unfold seg; rw [sumTo_zero, sumTo_zero]; rfl
  rw [b] at a; exact a

/-- While the floors are cleared from above: the floors from e on are clear; L waits now; S is the way till now. -/
structure ShareInv (f p L : Nat → Int) (r : Int) (n e : Nat) (S : Int) : Prop where
  b : ∀ i, i < n → 0 ≤ L i ∧ L i ≤ 30
  z : ∀ i, e ≤ i → i < n → L i = 0
  s0 : 0 ≤ S
  s : S + leastTo f L r n (n - 1) = leastTo f p r n (n - 1)
theorem share_start {f p : Nat → Int} {r : Int} {n : Nat} (hp : ∀ i, i < n → 0 ≤ p i ∧ p i ≤ 30) : ShareInv f p p r n n 0 :=
  ⟨hp, fun i h1 h2 => by omega, Int.le_refl _, by omega⟩
theorem share_trip {f p L L' : Nat → Int} {r S R : Int} {n t e : Nat} (h : ShareInv f p L r n (t + 1) S) (hfl : floorsB f n = true) (hr : 1 ≤ r) (ht : t < n) (hp : 0 < L t) (hi : TakeInv L L' n t e r R) (he : e ≤ 1) :
    ShareInv f p L' r n (t + 1) (S + 2 * f t) := by
  have a := trip_least hr ht (floorsB_iff.1 hfl).2.2.1 (fun i hi => (h.b i hi).1) (fun i h1 h2 => h.z i (by omega) h2) hp hi he
  have b := floors_bound hfl t ht
  have c := h.s0
  have d := h.s
  refine ⟨fun i hx => ?_, fun i h1 h2 => ?_, by omega, by omega⟩
  · have x := hi.le i hx
    have y := h.b i hx
    omega
  · rw [hi.hi i (by omega) h2]; exact h.z i h1 h2
theorem share_down {f p L : Nat → Int} {r S : Int} {n t : Nat} (h : ShareInv f p L r n (t + 1) S) (ht : t < n) (hp : L t ≤ 0) : ShareInv f p L r n t S := by
  refine ⟨h.b, fun i h1 h2 => ?_, h.s0, h.s⟩
  by_cases e : i = t
  · subst e; have := (h.b i ht).1; omega
  · exact h.z i (by omega) h2
theorem share_end {f p L : Nat → Int} {r S : Int} {n e : Nat} (h : ShareInv f p L r n e S) (hr : 1 ≤ r) (hn : 1 ≤ n) (he : e ≤ 1) : S = leastTo f p r n (n - 1) := by
  have a := none_least (f := f) hr hn (fun i h1 h2 => h.z i (by omega) h2)
  have b := h.s
  omega
theorem share_bound {f p L : Nat → Int} {r S : Int} {n e : Nat} (h : ShareInv f p L r n e S) (hfl : floorsB f n = true) (hp : ∀ i, i < n → 0 ≤ p i ∧ p i ≤ 30) (hr : 1 ≤ r) : S ≤ 230400 := by
  have h1 := (floorsB_iff.1 hfl).1
  have h8 := (floorsB_iff.1 hfl).2.1
  have a := leastTo_bound (floors_lt hfl) (floors_bound hfl) (suf_bound h.b h8) hr (n - 1) (by omega)
  have b := leastTo_bound (floors_lt hfl) (floors_bound hfl) (suf_bound hp h8) hr (n - 1) (by omega)
  have c := h.s
  omega
end Go.Proofs.YthkpikkjgggimaaGreatDoor

namespace Go.Proofs.YthkpikkjgggimaaGreatDoor

/-! ### the car -/
def motionB (a s : Int) : Bool := inB a 0 60 && inB s (-5) 5
/-- The way in which a car with the speed s stops. -/
def brake (s : Int) : Int := if s < 0 then -(s * (s + 1) / 2) else s * (s - 1) / 2
def brakeOf (s : Int) : Int := if inB s (-5) 5 = true then brake s else 0
/-- Whether a valid car can stop at a target. -/
def stopT (a s t : Int) : Bool := if 0 < s then decide (a + brake s ≤ t) else if s < 0 then decide (t ≤ a + brake s) else true
def canStop (a s t : Int) : Bool := motionB a s && inB t 0 60 && stopT a s t
/-- A car at a with the speed v behind the next tick can stop at t. -/
def fitB (a t v : Int) : Bool := canStop (a + v) v t
/-- The speed with which a car that can stop at t is driven there. -/
def drv (a s t : Int) : Int :=
  if a ≤ t then (if fitB a t (s + 1) = true then s + 1 else if fitB a t s = true then s else if fitB a t (s - 1) = true then s - 1 else 0)
  else (if fitB a t (s - 1) = true then s - 1 else if fitB a t s = true then s else if fitB a t (s + 1) = true then s + 1 else 0)
def newSpeed (a s t : Int) : Int := if canStop a s t = true then drv a s t else if 0 < s then s - 1 else s + 1
/-- A car behind a tick in which it is driven to t. -/
def stepAt (a s t : Int) : Int := if a + newSpeed a s t < 0 then 0 else if 60 < a + newSpeed a s t then 60 else a + newSpeed a s t
def stepSp (a s t : Int) : Int := if a + newSpeed a s t < 0 then 0 else if 60 < a + newSpeed a s t then 0 else newSpeed a s t

theorem brake_val : brake 0 = 0 ∧ brake 1 = 0 ∧ brake 2 = 1 ∧ brake 3 = 3 ∧ brake 4 = 6 ∧ brake 5 = 10 ∧ brake (-1) = 0 ∧ brake (-2) = -1 ∧ brake (-3) = -3 ∧ brake (-4) = -6 ∧ brake (-5) = -10 := by decide
theorem speeds {s : Int} (h : inB s (-5) 5 = true) : s = -5 ∨ s = -4 ∨ s = -3 ∨ s = -2 ∨ s = -1 ∨ s = 0 ∨ s = 1 ∨ s = 2 ∨ s = 3 ∨ s = 4 ∨ s = 5 := by
  have := inB_iff.1 h; omega
/-- The way to stop has the sign of the speed, and grows. -/
theorem brake_sign {s : Int} (h : inB s (-5) 5 = true) : (0 ≤ s → 0 ≤ brake s ∧ brake s ≤ 10) ∧ (s ≤ 0 → brake s ≤ 0 ∧ -10 ≤ brake s) := by
  rcases speeds h with rfl | rfl | rfl | rfl | rfl | rfl | rfl | rfl | rfl | rfl | rfl <;> decide
theorem brake_less {s : Int} (h : inB s (-5) 5 = true) : (1 ≤ s → brake s = brake (s - 1) + (s - 1)) ∧ (s ≤ -1 → brake s = brake (s + 1) + (s + 1)) := by
  rcases speeds h with rfl | rfl | rfl | rfl | rfl | rfl | rfl | rfl | rfl | rfl | rfl <;> decide
theorem fit_iff {a t v : Int} : fitB a t v = true ↔ (0 ≤ a + v ∧ a + v ≤ 60) ∧ (-5 ≤ v ∧ v ≤ 5) ∧ (0 ≤ t ∧ t ≤ 60) ∧ (0 < v → a + v + brake v ≤ t) ∧ (v < 0 → t ≤ a + v + brake v) := by
  simp only [fitB, canStop, motionB, stopT, Bool.and_eq_true, inB_iff]
  by_cases h1 : 0 < v
  · simp [h1]; omega
  · by_cases h2 : v < 0
    · simp [h1, h2]; omega
    · simp [h1, h2]; omega
theorem canStop_iff {a s t : Int} : canStop a s t = true ↔ (0 ≤ a ∧ a ≤ 60) ∧ (-5 ≤ s ∧ s ≤ 5) ∧ (0 ≤ t ∧ t ≤ 60) ∧ (0 < s → a + brake s ≤ t) ∧ (s < 0 → t ≤ a + brake s) := by
  have := @fit_iff (a - s) t s
  simp only [fitB] at this
  rwa [show a - s + s = a by omega] at this
/-- What can stop does not go past the target. -/
theorem fit_ahead {a t v : Int} (h : fitB a t v = true) : (0 < v → a + v ≤ t) ∧ (v < 0 → t ≤ a + v) := by
  obtain ⟨h1, h2, h3, h4, h5⟩ := fit_iff.1 h
  have hb := brake_sign (inB_iff.2 h2)
  exact ⟨fun h => by have := h4 h; have := hb.1 (by omega); omega, fun h => by have := h5 h; have := hb.2 (by omega); omega⟩
/-- A car that can stop, or that brakes, has a next speed with which it can stop. -/
theorem drv_fits {a s t : Int} (h : canStop a s t = true) : fitB a t (drv a s t) = true ∧ (drv a s t = s - 1 ∨ drv a s t = s ∨ drv a s t = s + 1) := by
  obtain ⟨h1, h2, h3, h4, h5⟩ := canStop_iff.1 h
  have hb := brake_less (inB_iff.2 h2)
  have hs := brake_sign (inB_iff.2 h2)
  have key : fitB a t (s - 1) = true ∨ fitB a t s = true ∨ fitB a t (s + 1) = true := by
    rcases Int.lt_trichotomy s 0 with h0 | h0 | h0
    · right; right
      rw [fit_iff]
      have e := hb.2 (by omega)
      have := h5 h0
      have hs' := brake_sign (s := s + 1) (inB_iff.2 (by omega))
      refine ⟨by have := hs.2 (by omega); omega, by omega, h3, fun h => by omega, fun h => by omega⟩
    · right; left
      rw [fit_iff]
      subst h0
      exact ⟨by omega, by omega, h3, fun h => by omega, fun h => by omega⟩
    · left
      rw [fit_iff]
      have e := hb.1 (by omega)
      have := h4 h0
      have hs' := brake_sign (s := s - 1) (inB_iff.2 (by omega))
      refine ⟨by have := hs'.1 (by omega); omega, by omega, h3, fun h => by omega, fun h => by omega⟩
  unfold drv
  by_cases hat : a ≤ t
  · rw [if_pos hat]
    split
    · exact ⟨by assumption, by omega⟩
    · split
      · exact ⟨by assumption, by omega⟩
      · split
        · exact ⟨by assumption, by omega⟩
        · rcases key with k | k | k <;> exact absurd k (by assumption)
  · rw [if_neg hat]
    split
    · exact ⟨by assumption, by omega⟩
    · split
      · exact ⟨by assumption, by omega⟩
      · split
        · exact ⟨by assumption, by omega⟩
        · rcases key with k | k | k <;> exact absurd k (by assumption)
theorem newSpeed_range {a s t : Int} (h : motionB a s = true) (ht : inB t 0 60 = true) : -5 ≤ newSpeed a s t ∧ newSpeed a s t ≤ 5 := by
  simp only [motionB, Bool.and_eq_true, inB_iff] at h
  unfold newSpeed
  split
  · rename_i hc
    have := (fit_iff.1 (drv_fits hc).1).2.1
    omega
  · rename_i hc
    have h0 : s ≠ 0 := by
      intro h0
      apply hc
      rw [canStop_iff]
      exact ⟨h.1, h.2, inB_iff.1 ht, fun h => by omega, fun h => by omega⟩
    split <;> omega
theorem step_valid {a s t : Int} (h : motionB a s = true) (ht : inB t 0 60 = true) : motionB (stepAt a s t) (stepSp a s t) = true := by
  have hr := newSpeed_range h ht
  simp only [motionB, Bool.and_eq_true, inB_iff]
  unfold stepAt stepSp
  constructor
  · split
    · omega
    · split <;> omega
  · split
    · omega
    · split <;> omega
/-- How many ticks at most a car drives to t. -/
def driveM (a s t : Int) : Nat := if canStop a s t = true then (if a ≤ t then (t - a).toNat else (a - t).toNat) + (if s = 0 then 0 else 1) else 100 + s.toNat + (-s).toNat
theorem driveM_le {a s t : Int} (h : motionB a s = true) (ht : inB t 0 60 = true) : driveM a s t ≤ 105 := by
  simp only [motionB, Bool.and_eq_true, inB_iff] at h
  have := inB_iff.1 ht
  unfold driveM
  split
  · split <;> split <;> omega
  · omega
end Go.Proofs.YthkpikkjgggimaaGreatDoor

namespace Go.Proofs.YthkpikkjgggimaaGreatDoor
set_option linter.unusedVariables false
set_option linter.unusedSimpArgs false

/-! ### calls -/
def callsB (nu nd nc : Nat) (up dn : Nat → Bool) : Bool := decide (1 ≤ nu) && decide (nu ≤ 8) && (nd == nu) && (nc == nu) && !(up (nu - 1)) && !(dn 0)
theorem callsB_iff {nu nd nc : Nat} {up dn : Nat → Bool} : callsB nu nd nc up dn = true ↔ 1 ≤ nu ∧ nu ≤ 8 ∧ nd = nu ∧ nc = nu ∧ up (nu - 1) = false ∧ dn 0 = false := by
  simp [callsB, and_assoc]
/-- p, but v at k. -/
def updB (p : Nat → Bool) (k : Nat) (v : Bool) (i : Nat) : Bool := if i = k then v else p i
def cntB (p : Nat → Bool) : Nat → Nat
  | 0 => 0
  | n + 1 => cntB p n + if p n = true then 1 else 0
theorem cntB_le (p : Nat → Bool) (n : Nat) : cntB p n ≤ n := by
  induction n with
  | zero => exact Nat.le_refl _
  | succ n ih => simp only [cntB]; split <;> omega
theorem cntB_zero {p : Nat → Bool} {n : Nat} : cntB p n = 0 ↔ ∀ i, i < n → p i = false := by
  induction n with
  | zero => simp [cntB]
  | succ n ih =>
    simp only [cntB]
    constructor
    · intro h i hi
      have h1 : cntB p n = 0 := by omega
      by_cases e : i = n
      · subst e
        cases hp : p i
        · rfl
        · rw [hp] at h; simp at h
      · exact ih.1 h1 i (by omega)
    · intro h
      rw [ih.2 (fun i hi => h i (by omega)), h n (by omega)]; simp
theorem cntB_congr {p q : Nat → Bool} {n : Nat} (h : ∀ i, i < n → p i = q i) : cntB p n = cntB q n := by
  induction n with
  | zero => rfl
  | succ n ih => simp only [cntB]; rw [ih (fun i hi => h i (by omega)), h n (by omega)]
/-- Without a call that is there there is one less, without another one as many. -/
theorem cntB_upd (p : Nat → Bool) (k : Nat) : ∀ n, cntB (updB p k false) n + (if k < n ∧ p k = true then 1 else 0) = cntB p n := by
  intro n
  induction n with
  | zero => simp [cntB]
  | succ n ih =>
    simp only [cntB]
    by_cases e : n = k
    · subst e
      have h1 : cntB (updB p n false) n = cntB p n := cntB_congr (fun i hi => by simp [updB, show i ≠ n by omega])
      cases hp : p n <;> simp [h1, updB, hp]
    · have h1 : updB p k false n = p n := by simp [updB, e]
      rw [h1]
      by_cases hk : k < n
      · have hk' : k < n + 1 := by omega
        simp only [hk, hk', true_and] at ih ⊢; omega
      · have hk' : ¬ k < n + 1 := by omega
        simp only [hk, hk', false_and, if_false] at ih ⊢; omega
theorem cntB_upd_le (p : Nat → Bool) (k n : Nat) : cntB (updB p k false) n ≤ cntB p n := by
  have := cntB_upd p k n; omega

structure Bld where
  n : Nat
  f : Nat → Int
  pos : Int
  sp : Int
  gap : Int
  hold : Int
  nu : Nat
  up : Nat → Bool
  nd : Nat
  dn : Nat → Bool
  nc : Nat
  car : Nat → Bool
  fl : Int
  dir : Int
  op : Bool

def doorB (g h : Int) : Bool := inB g 0 4 && inB h 0 3 && (decide (h = 0) || decide (g = 4))
def standF (f : Nat → Int) (n : Nat) (pos sp : Int) : Int := if sp = 0 then floorAtOf f n pos else -1
def liftB (f : Nat → Int) (n : Nat) (pos sp gap hold : Int) : Bool := floorsB f n && motionB pos sp && doorB gap hold && (decide (gap = 0) || decide (0 ≤ standF f n pos sp))
def haltB (n : Nat) (st gap fl dir : Int) (op : Bool) : Bool :=
  (decide (dir = 1) || decide (dir = -1)) && (if fl = -1 then decide (0 ≤ st) else (inB fl 0 ((n : Int) - 1) && decide (gap = 0) && !op))
def Bld.stand (b : Bld) : Int := standF b.f b.n b.pos b.sp
def Bld.valid (b : Bld) : Bool := liftB b.f b.n b.pos b.sp b.gap b.hold && callsB b.nu b.nd b.nc b.up b.dn && (b.nu == b.n) && haltB b.n b.stand b.gap b.fl b.dir b.op
theorem doorB_iff {g h : Int} : doorB g h = true ↔ (0 ≤ g ∧ g ≤ 4) ∧ (0 ≤ h ∧ h ≤ 3) ∧ (h = 0 ∨ g = 4) := by
  simp [doorB, inB_iff, and_assoc]
theorem motionB_iff {a s : Int} : motionB a s = true ↔ (0 ≤ a ∧ a ≤ 60) ∧ (-5 ≤ s ∧ s ≤ 5) := by
  simp [motionB, inB_iff]
theorem liftB_iff {f : Nat → Int} {n : Nat} {pos sp gap hold : Int} : liftB f n pos sp gap hold = true ↔ floorsB f n = true ∧ motionB pos sp = true ∧ doorB gap hold = true ∧ (gap = 0 ∨ 0 ≤ standF f n pos sp) := by
  simp [liftB, and_assoc]
theorem haltB_iff {n : Nat} {st gap fl dir : Int} {op : Bool} : haltB n st gap fl dir op = true ↔ (dir = 1 ∨ dir = -1) ∧ ((fl = -1 ∧ 0 ≤ st) ∨ ((0 ≤ fl ∧ fl < n) ∧ gap = 0 ∧ op = false)) := by
  unfold haltB
  by_cases h : fl = -1
  · simp [h]
  · simp [h, inB_iff, and_assoc]
    intro _ _ _ _
    omega
structure Bld.Ok (b : Bld) : Prop where
  floors : floorsB b.f b.n = true
  motion : motionB b.pos b.sp = true
  door : doorB b.gap b.hold = true
  shut : b.gap = 0 ∨ 0 ≤ b.stand
  calls : callsB b.nu b.nd b.nc b.up b.dn = true
  same : b.nu = b.n
  way : b.dir = 1 ∨ b.dir = -1
  halt : (b.fl = -1 ∧ 0 ≤ b.stand) ∨ ((0 ≤ b.fl ∧ b.fl < b.n) ∧ b.gap = 0 ∧ b.op = false)
theorem valid_iff {b : Bld} : b.valid = true ↔ b.Ok := by
  simp only [Bld.valid, Bool.and_eq_true, liftB_iff, haltB_iff, beq_iff_eq]
  exact ⟨fun ⟨⟨⟨⟨a, b, c, d⟩, e⟩, f⟩, g, h⟩ => ⟨a, b, c, d, e, f, g, h⟩, fun ⟨a, b, c, d, e, f, g, h⟩ => ⟨⟨⟨⟨a, b, c, d⟩, e⟩, f⟩, g, h⟩⟩

/-! ### where a car stops next -/
/-- How many floors there are from one on in a direction, and the floor so many further. -/
def ways (n : Nat) (fl dir : Int) : Nat := if 0 < dir then n - fl.toNat else fl.toNat + 1
def place (fl dir : Int) (j : Nat) : Nat := if 0 < dir then fl.toNat + j else fl.toNat - j
def callGo (up dn : Nat → Bool) (k : Nat) (dir : Int) : Bool := if 0 < dir then up k else dn k
def hitP (up dn car : Nat → Bool) (fl dir : Int) (j : Nat) : Bool := car (place fl dir j) || callGo up dn (place fl dir j) dir
def backP (up dn : Nat → Bool) (fl dir : Int) (j : Nat) : Bool := callGo up dn (place fl dir j) (-dir)
/-- One more than the last place below n at which p holds; 0 if there is none. -/
def lastP (p : Nat → Bool) : Nat → Nat
  | 0 => 0
  | n + 1 => if p n = true then n + 1 else lastP p n
theorem lastP_spec (p : Nat → Bool) (n : Nat) : lastP p n ≤ n ∧ (0 < lastP p n → p (lastP p n - 1) = true) ∧ (∀ i, lastP p n ≤ i → i < n → p i = false) := by
  induction n with
  | zero => simp [lastP]
  | succ n ih =>
    simp only [lastP]
    split
    · rename_i h
      exact ⟨Nat.le_refl _, fun _ => by rw [Nat.add_sub_cancel]; exact h, fun i h1 h2 => by omega⟩
    · rename_i h
      refine ⟨by omega, ih.2.1, fun i h1 h2 => ?_⟩
      by_cases e : i = n
      · subst e; simpa using h
      · exact ih.2.2 i h1 (by omega)
def towardFl (n : Nat) (up dn car : Nat → Bool) (fl dir : Int) : Int :=
  if firstP (hitP up dn car fl dir) (ways n fl dir) < ways n fl dir then (place fl dir (firstP (hitP up dn car fl dir) (ways n fl dir)) : Nat)
  else if lastP (backP up dn fl dir) (ways n fl dir) = 0 then -1 else (place fl dir (lastP (backP up dn fl dir) (ways n fl dir) - 1) : Nat)
def towardDir (n : Nat) (up dn car : Nat → Bool) (fl dir : Int) : Int :=
  if firstP (hitP up dn car fl dir) (ways n fl dir) < ways n fl dir then dir
  else if lastP (backP up dn fl dir) (ways n fl dir) = 0 then 0 else -dir
def nextFl (n : Nat) (up dn car : Nat → Bool) (fl dir : Int) : Int := if towardFl n up dn car fl dir < 0 then towardFl n up dn car fl (-dir) else towardFl n up dn car fl dir
def nextDir (n : Nat) (up dn car : Nat → Bool) (fl dir : Int) : Int := if towardFl n up dn car fl dir < 0 then towardDir n up dn car fl (-dir) else towardDir n up dn car fl dir

/-- What a stop is for: there is a call in the car for its floor, or one to go on. -/
def servedB (up dn car : Nat → Bool) (fl dir : Int) : Prop := car fl.toNat = true ∨ callGo up dn fl.toNat dir = true
theorem place_lt {n : Nat} {fl dir : Int} {j : Nat} (h0 : 0 ≤ fl) (h1 : fl < n) (hj : j < ways n fl dir) : place fl dir j < n := by
  unfold ways at hj; unfold place
  by_cases h : 0 < dir
  · rw [if_pos h] at hj ⊢; omega
  · rw [if_neg h] at hj ⊢; omega
theorem toward_yes {n : Nat} {up dn car : Nat → Bool} {fl dir : Int} (h0 : 0 ≤ fl) (h1 : fl < n) (hd : dir = 1 ∨ dir = -1) (h : 0 ≤ towardFl n up dn car fl dir) :
    towardFl n up dn car fl dir < n ∧ (towardDir n up dn car fl dir = 1 ∨ towardDir n up dn car fl dir = -1) ∧ servedB up dn car (towardFl n up dn car fl dir) (towardDir n up dn car fl dir) := by
  unfold towardFl towardDir at *
  obtain ⟨a, b, c⟩ := firstP_spec (hitP up dn car fl dir) (ways n fl dir)
  obtain ⟨a', b', c'⟩ := lastP_spec (backP up dn fl dir) (ways n fl dir)
  split
  · rename_i hlt
    have hh := c hlt
    have := place_lt (dir := dir) h0 h1 hlt
    refine ⟨by omega, hd, ?_⟩
    simp only [servedB, Int.toNat_natCast]
    simpa [hitP] using hh
  · rename_i hlt
    rw [if_neg hlt] at h
    split
    · rename_i hz; rw [if_pos hz] at h; omega
    · rename_i hz
      have hh := b' (by omega)
      have := place_lt (n := n) (dir := dir) (j := lastP (backP up dn fl dir) (ways n fl dir) - 1) h0 h1 (by omega)
      refine ⟨by omega, by omega, ?_⟩
      simp only [servedB, Int.toNat_natCast]
      exact .inr hh
theorem next_yes {n : Nat} {up dn car : Nat → Bool} {fl dir : Int} (h0 : 0 ≤ fl) (h1 : fl < n) (hd : dir = 1 ∨ dir = -1) (h : 0 ≤ nextFl n up dn car fl dir) :
    nextFl n up dn car fl dir < n ∧ (nextDir n up dn car fl dir = 1 ∨ nextDir n up dn car fl dir = -1) ∧ servedB up dn car (nextFl n up dn car fl dir) (nextDir n up dn car fl dir) := by
  unfold nextFl nextDir at *
  split
  · rename_i hlt
    rw [if_pos hlt] at h
    exact toward_yes h0 h1 (by omega) h
  · rename_i hlt
    rw [if_neg hlt] at h
    exact toward_yes h0 h1 hd h
/-- Where no stop is found there is no call ahead. -/
theorem toward_no {n : Nat} {up dn car : Nat → Bool} {fl dir : Int} (hd : dir = 1 ∨ dir = -1) (h : towardFl n up dn car fl dir < 0) :
    ∀ j, j < ways n fl dir → car (place fl dir j) = false ∧ up (place fl dir j) = false ∧ dn (place fl dir j) = false := by
  unfold towardFl at h
  obtain ⟨a, b, c⟩ := firstP_spec (hitP up dn car fl dir) (ways n fl dir)
  obtain ⟨a', b', c'⟩ := lastP_spec (backP up dn fl dir) (ways n fl dir)
  split at h
  · omega
  · rename_i hlt
    split at h
    · rename_i hz
      intro j hj
      have h1 := b j (by omega)
      have h2 := c' j (by omega) hj
      simp only [hitP, backP, callGo, Bool.or_eq_false_iff] at h1 h2
      rcases hd with rfl | rfl
      · simp at h1 h2; exact ⟨h1.1, h1.2, h2⟩
      · simp at h1 h2; exact ⟨h1.1, h2, h1.2⟩
    · omega
theorem next_no {n : Nat} {up dn car : Nat → Bool} {fl dir : Int} (h0 : 0 ≤ fl) (h1 : fl < n) (hd : dir = 1 ∨ dir = -1) (h : nextFl n up dn car fl dir < 0) :
    ∀ k, k < n → car k = false ∧ up k = false ∧ dn k = false := by
  unfold nextFl at h
  split at h
  · rename_i hlt
    have ha := toward_no hd hlt
    have hb := toward_no (dir := -dir) (by omega) h
    intro k hk
    have go : ∀ d : Int, (d = 1 ∧ fl.toNat ≤ k) ∨ (d = -1 ∧ k ≤ fl.toNat) → ∃ j, j < ways n fl d ∧ place fl d j = k := by
      rintro d (⟨rfl, hl⟩ | ⟨rfl, hl⟩)
      · exact ⟨k - fl.toNat, by simp [ways]; omega, by simp [place]; omega⟩
      · exact ⟨fl.toNat - k, by simp [ways]; omega, by simp [place]; omega⟩
    rcases Nat.le_total fl.toNat k with hl | hl
    · obtain ⟨j, hj, e⟩ := go 1 (.inl ⟨rfl, hl⟩)
      rcases hd with rfl | rfl
      · have := ha j hj; rwa [e] at this
      · have := hb j hj; simp only [Int.neg_neg] at this; rwa [e] at this
    · obtain ⟨j, hj, e⟩ := go (-1) (.inr ⟨rfl, hl⟩)
      rcases hd with rfl | rfl
      · have := hb j hj; rwa [e] at this
      · have := ha j hj; rwa [e] at this
  · omega
end Go.Proofs.YthkpikkjgggimaaGreatDoor
