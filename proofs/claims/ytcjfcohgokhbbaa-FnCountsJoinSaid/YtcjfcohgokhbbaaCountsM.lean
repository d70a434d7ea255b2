/-
  Counts and percentiles: the plain laws, with no program in sight. No claim stands here.
-/
import Derived.Test.YtcjfcohgokhbbaaPlain
namespace Go.Proofs.Ytcjfcohgokhbbaa
set_option linter.unusedVariables false
set_option linter.unusedSimpArgs false

/-- There is a count for each of 16 times. -/
def countsB (f : Nat → Int) (n : Nat) : Bool := (n == 16) && allB (withinP f 1000) n
theorem countsB_iff {f : Nat → Int} {n : Nat} : countsB f n = true ↔ n = 16 ∧ ∀ i, i < 16 → 0 ≤ f i ∧ f i ≤ 999 := by
  simp only [countsB, Bool.and_eq_true, beq_iff_eq, allB_iff, withinP, inB_iff]
  constructor
  · rintro ⟨rfl, h⟩; exact ⟨rfl, fun i hi => by have := h i hi; omega⟩
  · rintro ⟨rfl, h⟩; exact ⟨rfl, fun i hi => by have := h i hi; omega⟩
def allOf (f : Nat → Int) (n : Nat) : Int := if countsB f n = true then sumTo f n else -1
theorem allOf_yes {f : Nat → Int} {n : Nat} (h : countsB f n = true) : allOf f n = sumTo f n := by simp [allOf, h]
theorem allOf_no {f : Nat → Int} {n : Nat} (h : countsB f n = false) : allOf f n = -1 := by simp [allOf, h]
theorem allOf_bound {f : Nat → Int} {n : Nat} (h : countsB f n = true) : ∀ k, k ≤ 16 → 0 ≤ sumTo f k ∧ sumTo f k ≤ 16000 := by
  intro k hk
  have := sumTo_bound (M := 999) (countsB_iff.1 h).2 k hk
  omega
theorem allOf_neg {f : Nat → Int} {n : Nat} : allOf f n < 0 ↔ countsB f n = false := by
  cases h : countsB f n
  · rw [allOf_no h]; simp
  · have hn := (countsB_iff.1 h).1
    have := allOf_bound h n (by omega)
    rw [allOf_yes h]; simp; omega

/-- So many percent are reached at a time. -/
def pctP (f : Nat → Int) (n : Nat) (pc : Int) (k : Nat) : Bool := decide (pc * sumTo f n ≤ 100 * sumTo f (k + 1))
def pctOk (f : Nat → Int) (n : Nat) (pc : Int) : Bool := decide (0 < allOf f n) && inB pc 0 100
def pctOf (f : Nat → Int) (n : Nat) (pc : Int) : Int := if pctOk f n pc = true then (firstP (pctP f n pc) n : Nat) else -1
theorem pctOk_iff {f : Nat → Int} {n : Nat} {pc : Int} : pctOk f n pc = true ↔ (countsB f n = true ∧ 0 < sumTo f n) ∧ 0 ≤ pc ∧ pc ≤ 100 := by
  simp only [pctOk, Bool.and_eq_true, decide_eq_true_eq, inB_iff]
  refine and_congr_left fun _ => ?_
  cases h : countsB f n
  · rw [allOf_no h]; simp
  · rw [allOf_yes h]; simp
theorem pctOf_yes {f : Nat → Int} {n : Nat} {pc : Int} (h : pctOk f n pc = true) : pctOf f n pc = (firstP (pctP f n pc) n : Nat) := by simp [pctOf, h]
theorem pctOf_no {f : Nat → Int} {n : Nat} {pc : Int} (h : pctOk f n pc = false) : pctOf f n pc = -1 := by simp [pctOf, h]
theorem pct_mul {pc S : Int} (h1 : pc ≤ 100) (hS : 0 ≤ S) : pc * S ≤ 100 * S := Int.mul_le_mul_of_nonneg_right h1 hS
theorem pct_last {f : Nat → Int} {n : Nat} {pc : Int} (h : pctOk f n pc = true) : pctP f n pc 15 = true := by
  obtain ⟨⟨hc, hS⟩, h0, h1⟩ := pctOk_iff.1 h
  obtain ⟨rfl, _⟩ := countsB_iff.1 hc
  simp only [pctP, decide_eq_true_eq]
  exact pct_mul h1 (by omega)
theorem pct_first {f : Nat → Int} {n : Nat} {pc : Int} (h : pctOk f n pc = true) : firstP (pctP f n pc) n < 16 ∧ n = 16 := by
  obtain ⟨⟨hc, hS⟩, h0, h1⟩ := pctOk_iff.1 h
  obtain ⟨rfl, _⟩ := countsB_iff.1 hc
  have := firstP_lt (n := 16) (k := 15) (by omega) (pct_last h)
  exact ⟨by omega, rfl⟩
theorem pctOf_neg {f : Nat → Int} {n : Nat} {pc : Int} : pctOf f n pc < 0 ↔ pctOk f n pc = false := by
  cases h : pctOk f n pc
  · rw [pctOf_no h]; simp
  · rw [pctOf_yes h]; simp
theorem pct_more {f : Nat → Int} {n : Nat} {pc : Int} (h : pctOk f n pc = true) (h1 : pc + 1 ≤ 100) : pctOf f n pc ≤ pctOf f n (pc + 1) := by
  obtain ⟨hc, h0, _⟩ := pctOk_iff.1 h
  have h' : pctOk f n (pc + 1) = true := pctOk_iff.2 ⟨hc, by omega, h1⟩
  rw [pctOf_yes h, pctOf_yes h']
  obtain ⟨a1, a2, a3⟩ := firstP_spec (pctP f n pc) n
  have := firstP_ge (p := pctP f n (pc + 1)) (n := n) (k := firstP (pctP f n pc) n) a1 (fun i hi => by
    have := a2 i hi
    simp only [pctP, decide_eq_false_iff_not] at this ⊢
    have e : (pc + 1) * sumTo f n = pc * sumTo f n + sumTo f n := by rw [Int.add_mul]; simp
    have := hc.2
    omega)
  omega
theorem pct_join {f g : Nat → Int} {n : Nat} {pc : Int} (hf : pctOk f n pc = true) (hg : pctOk g n pc = true) (hh : countsB (fun i => f i + g i) n = true) :
    min (pctOf f n pc) (pctOf g n pc) ≤ pctOf (fun i => f i + g i) n pc ∧ pctOf (fun i => f i + g i) n pc ≤ max (pctOf f n pc) (pctOf g n pc) := by
  obtain ⟨⟨hc, hS⟩, h0, h1⟩ := pctOk_iff.1 hf
  obtain ⟨⟨hc', hS'⟩, _, _⟩ := pctOk_iff.1 hg
  have hn : n = 16 := (countsB_iff.1 hc).1
  have hj : pctOk (fun i => f i + g i) n pc = true := pctOk_iff.2 ⟨⟨hh, by rw [sumTo_add]; omega⟩, h0, h1⟩
  rw [pctOf_yes hf, pctOf_yes hg, pctOf_yes hj]
  obtain ⟨a1, a2, a3⟩ := firstP_spec (pctP f n pc) n
  obtain ⟨b1, b2, b3⟩ := firstP_spec (pctP g n pc) n
  have af := pct_first hf
  have bf := pct_first hg
  have hmul : pc * sumTo (fun i => f i + g i) n = pc * sumTo f n + pc * sumTo g n := by rw [sumTo_add, Int.mul_add]
  have hlo := firstP_ge (p := pctP (fun i => f i + g i) n pc) (n := n) (k := min (firstP (pctP f n pc) n) (firstP (pctP g n pc) n)) (by omega) (fun i hi => by
    have x := a2 i (by omega)
    have y := b2 i (by omega)
    simp only [pctP, decide_eq_false_iff_not] at x y ⊢
    rw [hmul, sumTo_add]
    omega)
  have hmono := sumTo_mono (f := f) (n := 16) (fun i hi => ((countsB_iff.1 hc).2 i hi).1)
  have hmono' := sumTo_mono (f := g) (n := 16) (fun i hi => ((countsB_iff.1 hc').2 i hi).1)
  have hhi := firstP_lt (p := pctP (fun i => f i + g i) n pc) (n := n) (k := max (firstP (pctP f n pc) n) (firstP (pctP g n pc) n)) (by omega) (by
    have x := a3 (by omega)
    have y := b3 (by omega)
    simp only [pctP, decide_eq_true_eq] at x y ⊢
    rw [hmul, sumTo_add]
    have := hmono (firstP (pctP f n pc) n + 1) (max (firstP (pctP f n pc) n) (firstP (pctP g n pc) n) + 1) (by omega) (by omega)
    have := hmono' (firstP (pctP g n pc) n + 1) (max (firstP (pctP f n pc) n) (firstP (pctP g n pc) n) + 1) (by omega) (by omega)
    omega)
  omega

/-- How many of the first k times are counted at i. -/
def cntOf (f : Nat → Int) : Nat → Nat → Int
  | 0, _ => 0
  | k + 1, i => cntOf f k i + if min (f k) 15 = (i : Int) then 1 else 0
/-- The first k times can be counted. -/
def timeP (f : Nat → Int) (i : Nat) : Bool := decide (0 ≤ f i)
def fitsP (f : Nat → Int) (k : Nat) (i : Nat) : Bool := decide (cntOf f k i ≤ 999)
def timesB (f : Nat → Int) (n : Nat) : Bool := allB (timeP f) n && allB (fitsP f n) 16
theorem timesB_iff {f : Nat → Int} {n : Nat} : timesB f n = true ↔ (∀ i, i < n → 0 ≤ f i) ∧ ∀ i, i < 16 → cntOf f n i ≤ 999 := by
  simp [timesB, allB_iff, timeP, fitsP]
theorem cntOf_step (f : Nat → Int) (k i : Nat) : cntOf f k i ≤ cntOf f (k + 1) i ∧ cntOf f (k + 1) i ≤ cntOf f k i + 1 := by
  simp only [cntOf]; split <;> omega
theorem cntOf_mono (f : Nat → Int) (i : Nat) : ∀ j k, j ≤ k → cntOf f j i ≤ cntOf f k i := by
  intro j k h
  induction k with
  | zero => obtain rfl : j = 0 := (by omega); exact Int.le_refl _
  | succ k ih =>
    by_cases e : j = k + 1
    · subst e; exact Int.le_refl _
    · have := ih (by omega); have := (cntOf_step f k i).1; omega
theorem cntOf_nonneg (f : Nat → Int) (k i : Nat) : 0 ≤ cntOf f k i := cntOf_mono f i 0 k (Nat.zero_le _)
theorem timesB_less {f : Nat → Int} {j k : Nat} (h : timesB f k = true) (hj : j ≤ k) : timesB f j = true := by
  rw [timesB_iff] at h ⊢
  exact ⟨fun i hi => h.1 i (by omega), fun i hi => Int.le_trans (cntOf_mono f i j k hj) (h.2 i hi)⟩
theorem timesB_neg {f : Nat → Int} {k n : Nat} (hk : k < n) (h : f k < 0) : timesB f n = false := by
  rw [Bool.eq_false_iff]
  intro h'
  have := (timesB_iff.1 h').1 k hk
  omega
theorem timesB_over {f : Nat → Int} {k n i : Nat} (hk : k ≤ n) (hi : i < 16) (h : 999 < cntOf f k i) : timesB f n = false := by
  rw [Bool.eq_false_iff]
  intro h'
  have := (timesB_iff.1 h').2 i hi
  have := cntOf_mono f i k n hk
  omega
/-- One time more. -/
theorem timesB_succ {f : Nat → Int} {k : Nat} (h : timesB f k = true) (h0 : 0 ≤ f k) (h1 : cntOf f k (min (f k) 15).toNat + 1 ≤ 999) : timesB f (k + 1) = true := by
  rw [timesB_iff] at h ⊢
  refine ⟨fun i hi => ?_, fun i hi => ?_⟩
  · by_cases e : i = k
    · subst e; exact h0
    · exact h.1 i (by omega)
  · simp only [cntOf]
    split
    · rename_i e
      have e2 : (min (f k) 15).toNat = i := by omega
      rw [e2] at h1; exact h1
    · have := h.2 i hi; omega
/-- The counts are as many as the times. -/
theorem cntOf_sum {f : Nat → Int} {n : Nat} (h : ∀ i, i < n → 0 ≤ f i) : sumTo (cntOf f n) 16 = n := by
  induction n with
  | zero => exact sumTo_zero 16
  | succ n ih =>
    have e : sumTo (cntOf f (n + 1)) 16 = sumTo (cntOf f n) 16 + sumTo (fun i => if min (f n) 15 = (i : Int) then 1 else 0) 16 := sumTo_add _ _ 16
    rw [e, ih (fun i hi => h i (by omega))]
    have h0 := h n (by omega)
    have one : sumTo (fun i => if min (f n) 15 = (i : Int) then 1 else 0) 16 = 1 := by
      generalize hm : min (f n) 15 = m
      have h1 : 0 ≤ m := by omega
      have h2 : m ≤ 15 := by omega
      clear hm h0 e ih h
      obtain ⟨j, rfl⟩ := Int.eq_ofNat_of_zero_le h1
      have hj : j < 16 := by omega
      clear h1 h2
      revert j
      decide
    rw [one]; omega
/-- In the other order. -/
def turnF (f : Nat → Int) (n i : Nat) : Int := f (n - 1 - i)
theorem cntOf_split (f : Nat → Int) (j : Nat) : ∀ k i, cntOf f (j + k) i = cntOf f j i + cntOf (fun m => f (j + m)) k i := by
  intro k i
  induction k with
  | zero => simp [cntOf]
  | succ k ih =>
    rw [← Nat.add_assoc]
    simp only [cntOf]
    rw [ih]; omega
theorem cntOf_congr {f g : Nat → Int} {n : Nat} (h : ∀ i, i < n → f i = g i) (i : Nat) : cntOf f n i = cntOf g n i := by
  induction n with
  | zero => rfl
  | succ n ih => simp only [cntOf]; rw [ih (fun i hi => h i (by omega)), h n (by omega)]
theorem cntOf_turn (f : Nat → Int) (n i : Nat) : cntOf (turnF f n) n i = cntOf f n i := by
  induction n generalizing f with
  | zero => rfl
  | succ n ih =>
    have a := cntOf_split f 1 n i
    rw [Nat.add_comm 1 n] at a
    rw [a]
    have b : cntOf (turnF f (n + 1)) n i = cntOf (turnF (fun m => f (1 + m)) n) n i := cntOf_congr (fun j hj => by
      unfold turnF
      show f (n + 1 - 1 - j) = f (1 + (n - 1 - j))
      congr 1; omega) i
    have c : cntOf (turnF f (n + 1)) (n + 1) i = cntOf (turnF f (n + 1)) n i + if min (f 0) 15 = (i : Int) then 1 else 0 := by
      simp only [cntOf, turnF]
      simp
    rw [c, b, ih]
    simp only [cntOf]
    omega
theorem timesB_turn (f : Nat → Int) (n : Nat) : timesB (turnF f n) n = timesB f n := by
  rw [Bool.eq_iff_iff, timesB_iff, timesB_iff]
  simp only [cntOf_turn]
  refine and_congr_left fun _ => ⟨fun h i hi => ?_, fun h i hi => h _ (by omega)⟩
  have := h (n - 1 - i) (by omega)
  unfold turnF at this
  rwa [show n - 1 - (n - 1 - i) = i by omega] at this
theorem timesB_tail {f : Nat → Int} {n j : Nat} (h : timesB f n = true) (hj : j ≤ n) : timesB (fun m => f (j + m)) (n - j) = true := by
  rw [timesB_iff] at h ⊢
  refine ⟨fun i hi => h.1 _ (by omega), fun i hi => ?_⟩
  have := cntOf_split f j (n - j) i
  rw [show j + (n - j) = n by omega] at this
  have := cntOf_nonneg f j i
  have := h.2 i hi
  omega
theorem counts_of_times {f : Nat → Int} {n : Nat} (h : timesB f n = true) : countsB (cntOf f n) 16 = true :=
  countsB_iff.2 ⟨rfl, fun i hi => ⟨cntOf_nonneg f n i, (timesB_iff.1 h).2 i hi⟩⟩

/-- Two counts joined. -/
def joinOk (f : Nat → Int) (n : Nat) (g : Nat → Int) (m : Nat) : Bool := countsB f n && countsB g m && countsB (fun i => f i + g i) 16
def joinF (f g : Nat → Int) (i : Nat) : Int := f i + g i
theorem joinOk_iff {f : Nat → Int} {n : Nat} {g : Nat → Int} {m : Nat} : joinOk f n g m = true ↔ countsB f n = true ∧ countsB g m = true ∧ countsB (fun i => f i + g i) 16 = true := by
  simp [joinOk, and_assoc]
theorem joinOk_comm (f : Nat → Int) (n : Nat) (g : Nat → Int) (m : Nat) : joinOk f n g m = joinOk g m f n := by
  unfold joinOk
  have e : (fun i => f i + g i) = fun i => g i + f i := funext fun i => Int.add_comm _ _
  rw [e, Bool.and_comm (countsB f n)]
end Go.Proofs.Ytcjfcohgokhbbaa
