/-
  Service: stops, parts, gaps, the fewest stops: the plain laws, with no program in sight. No claim stands here.
-/
import Derived.Test.YtnpignenikkmiaaPlain
namespace Go.Proofs.Ytnpignenikkmiaa
set_option linter.unusedVariables false
set_option linter.unusedSimpArgs false

/-- The i-th stop is good behind the one ahead of it. -/
def stopP (f : Nat → Int) (i : Nat) : Bool := inB (f i) 1 39 && (decide (i = 0) || decide (f (i - 1) < f i))
def stopsB (f : Nat → Int) (n : Nat) : Bool := allB (stopP f) n


theorem stopP_no1 {f : Nat → Int} {k : Nat} (h : inB (f k) 1 39 = false) : stopP f k = false := by simp [stopP, h]
theorem stopP_zero {f : Nat → Int} {k : Nat} (h : inB (f k) 1 39 = true) (h0 : k = 0) : stopP f k = true := by subst h0; simp [stopP, h]
theorem stopP_yes {f : Nat → Int} {k : Nat} (h : inB (f k) 1 39 = true) (h' : f (k - 1) < f k) : stopP f k = true := by simp [stopP, h, h']
theorem stopP_no2 {f : Nat → Int} {k : Nat} (h0 : 0 < k) (h' : f k ≤ f (k - 1)) : stopP f k = false := by
  simp only [stopP, Bool.and_eq_false_iff, Bool.or_eq_false_iff, decide_eq_false_iff_not]
  exact .inr ⟨by omega, by omega⟩

/-- A part lasts for 1 .. 40 trips. -/
def partP (f : Nat → Int) (i : Nat) : Bool := inB (f i) 1 40
def partsB (f : Nat → Int) (n : Nat) : Bool := decide (n ≤ 5) && allB (partP f) n


theorem stopsB_iff {f : Nat → Int} {n : Nat} : stopsB f n = true ↔ ∀ i, i < n → 1 ≤ f i ∧ f i ≤ 39 ∧ (0 < i → f (i - 1) < f i) := by
  unfold stopsB
  rw [allB_iff]
  constructor
  · intro h i hi
    have := h i hi
    simp only [stopP, Bool.and_eq_true, Bool.or_eq_true, decide_eq_true_eq, inB_iff] at this
    obtain ⟨⟨a, b⟩, c⟩ := this
    exact ⟨a, b, fun h0 => by rcases c with c | c <;> omega⟩
  · intro h i hi
    obtain ⟨a, b, c⟩ := h i hi
    simp only [stopP, Bool.and_eq_true, Bool.or_eq_true, decide_eq_true_eq, inB_iff]
    refine ⟨⟨a, b⟩, ?_⟩
    by_cases h0 : i = 0
    · exact .inl h0
    · exact .inr (c (by omega))
theorem partsB_iff {f : Nat → Int} {n : Nat} : partsB f n = true ↔ n ≤ 5 ∧ ∀ i, i < n → 1 ≤ f i ∧ f i ≤ 40 := by
  simp [partsB, allB_iff, partP, inB_iff]

/-- Ascending: a stop of a lower place is less. -/
theorem stops_lt {f : Nat → Int} {n : Nat} (h : stopsB f n = true) : ∀ i j, i < j → j < n → f i < f j := by
  intro i j hij hj
  induction j with
  | zero => omega
  | succ j ih =>
    have h1 := (stopsB_iff.1 h (j + 1) hj).2.2 (by omega)
    rw [Nat.add_sub_cancel] at h1
    by_cases e : i = j
    · subst e; exact h1
    · have := ih (by omega) (by omega); omega

/-- The stop ahead of place k, 0 for the first. -/
def prevS (f : Nat → Int) : Nat → Int
  | 0 => 0
  | k + 1 => f k
/-- The longest gap ahead of one of the first k stops. -/
def gapTo (f : Nat → Int) : Nat → Int
  | 0 => 0
  | k + 1 => max (gapTo f k) (f k - prevS f k)
/-- All stops are ahead of the last trip. -/
def aheadP (t : Int) (f : Nat → Int) (i : Nat) : Bool := decide (f i < t)
def gapOk (t : Int) (f : Nat → Int) (n : Nat) : Bool := inB t 1 40 && stopsB f n && allB (aheadP t f) n
def gapOf (t : Int) (f : Nat → Int) (n : Nat) : Int := if gapOk t f n = true then max (gapTo f n) (t - prevS f n) else -1

theorem gapOk_iff {t : Int} {f : Nat → Int} {n : Nat} : gapOk t f n = true ↔ (1 ≤ t ∧ t ≤ 40) ∧ stopsB f n = true ∧ ∀ i, i < n → f i < t := by
  simp [gapOk, inB_iff, allB_iff, aheadP, and_assoc]
theorem gapTo_le {f : Nat → Int} {k : Nat} {M : Int} : gapTo f k ≤ M ↔ (0 ≤ M ∧ ∀ i, i < k → f i - prevS f i ≤ M) := by
  induction k with
  | zero => simp [gapTo]
  | succ k ih =>
    simp only [gapTo, Int.max_le, ih]
    constructor
    · rintro ⟨⟨h0, h1⟩, h2⟩
      exact ⟨h0, fun i hi => by
        by_cases e : i = k
        · subst e; exact h2
        · exact h1 i (by omega)⟩
    · rintro ⟨h0, h1⟩
      exact ⟨⟨h0, fun i hi => h1 i (by omega)⟩, h1 k (by omega)⟩
theorem gapTo_nonneg (f : Nat → Int) (k : Nat) : 0 ≤ gapTo f k := by
  induction k with
  | zero => simp [gapTo]
  | succ k ih => simp only [gapTo]; omega
theorem gapOf_yes {t : Int} {f : Nat → Int} {n : Nat} (h : gapOk t f n = true) : gapOf t f n = max (gapTo f n) (t - prevS f n) := by simp [gapOf, h]
theorem gapOf_no {t : Int} {f : Nat → Int} {n : Nat} (h : gapOk t f n = false) : gapOf t f n = -1 := by simp [gapOf, h]
theorem gapOf_nonneg {t : Int} {f : Nat → Int} {n : Nat} (h : gapOk t f n = true) : 0 ≤ gapOf t f n := by
  rw [gapOf_yes h]; have := gapTo_nonneg f n; omega
theorem gapOf_ok {t : Int} {f : Nat → Int} {n : Nat} (h : 0 ≤ gapOf t f n) : gapOk t f n = true := by
  cases e : gapOk t f n
  · rw [gapOf_no e] at h; omega
  · rfl
theorem gapOf_le {t : Int} {f : Nat → Int} {n : Nat} {M : Int} (h : gapOk t f n = true) : gapOf t f n ≤ M ↔ (0 ≤ M ∧ (∀ i, i < n → f i - prevS f i ≤ M) ∧ t - prevS f n ≤ M) := by
  rw [gapOf_yes h, Int.max_le, gapTo_le, and_assoc]

/-- f without place k. -/
def del (f : Nat → Int) (k i : Nat) : Int := if i < k then f i else f (i + 1)
theorem del_lo {f : Nat → Int} {k i : Nat} (h : i < k) : del f k i = f i := by simp [del, h]
theorem del_hi {f : Nat → Int} {k i : Nat} (h : k ≤ i) : del f k i = f (i + 1) := by simp [del, Nat.not_lt.2 h]
theorem prevS_pos (f : Nat → Int) {k : Nat} (h : 0 < k) : prevS f k = f (k - 1) := by
  cases k with
  | zero => omega
  | succ k => rfl
theorem prevS_del_lo {f : Nat → Int} {k i : Nat} (h : i ≤ k) : prevS (del f k) i = prevS f i := by
  cases i with
  | zero => rfl
  | succ i => exact del_lo (by omega)
theorem prevS_del_hi {f : Nat → Int} {k i : Nat} (h : k < i) : prevS (del f k) i = prevS f (i + 1) := by
  cases i with
  | zero => omega
  | succ i => exact del_hi (by omega)

theorem del_ok {t : Int} {f : Nat → Int} {n k : Nat} (h : gapOk t f n = true) (hk : k < n) : gapOk t (del f k) (n - 1) = true := by
  rw [gapOk_iff] at h ⊢
  obtain ⟨ht, hs, ha⟩ := h
  have hl := stops_lt hs
  refine ⟨ht, stopsB_iff.2 fun i hi => ?_, fun i hi => ?_⟩
  · by_cases e : i < k
    · obtain ⟨a, b, c⟩ := stopsB_iff.1 hs i (by omega)
      rw [del_lo e]
      exact ⟨a, b, fun h0 => by rw [del_lo (by omega)]; exact c h0⟩
    · obtain ⟨a, b, c⟩ := stopsB_iff.1 hs (i + 1) (by omega)
      rw [del_hi (by omega)]
      refine ⟨a, b, fun h0 => ?_⟩
      by_cases e' : i - 1 < k
      · rw [del_lo e']; exact hl _ _ (by omega) (by omega)
      · rw [del_hi (by omega)]; exact hl _ _ (by omega) (by omega)
  · by_cases e : i < k
    · rw [del_lo e]; exact ha i (by omega)
    · rw [del_hi (by omega)]; exact ha _ (by omega)

/-- A stop left out: the longest gap is as long at least. -/
theorem gap_del {t : Int} {f : Nat → Int} {n k : Nat} (h : gapOk t f n = true) (hk : k < n) : gapOf t f n ≤ gapOf t (del f k) (n - 1) := by
  have h' := del_ok h hk
  obtain ⟨h0, h1, h2⟩ := (gapOf_le h').1 (Int.le_refl _)
  obtain ⟨ht, hs, ha⟩ := gapOk_iff.1 h
  have hl := stops_lt hs
  have hprev : ∀ i, i < n → prevS f i ≤ f i := fun i hi => by
    cases i with
    | zero => have := (stopsB_iff.1 hs 0 hi).1; simp only [prevS]; omega
    | succ i => have := hl i (i + 1) (by omega) hi; simp only [prevS]; omega
  refine (gapOf_le h).2 ⟨h0, fun i hi => ?_, ?_⟩
  · rcases Nat.lt_trichotomy i k with e | e | e
    · have := h1 i (by omega)
      rwa [del_lo e, prevS_del_lo (by omega)] at this
    · subst e
      by_cases el : i < n - 1
      · have := h1 i el
        rw [del_hi (Nat.le_refl _), prevS_del_lo (Nat.le_refl _)] at this
        have := hl i (i + 1) (by omega) (by omega)
        omega
      · have e1 : n - 1 = i := by omega
        rw [e1, prevS_del_lo (Nat.le_refl _)] at h2
        rw [e1]
        have := ha i hi
        omega
    · by_cases e' : i = k + 1
      · subst e'
        have := h1 k (by omega)
        rw [del_hi (Nat.le_refl _), prevS_del_lo (Nat.le_refl _)] at this
        have := hprev k hk
        show f (k + 1) - f k ≤ _
        omega
      · have := h1 (i - 1) (by omega)
        rw [del_hi (by omega), prevS_del_hi (by omega), show i - 1 + 1 = i by omega] at this
        exact this
  · by_cases e : k = n - 1
    · subst e
      rw [prevS_del_lo (Nat.le_refl _)] at h2
      have := hprev (n - 1) hk
      rw [prevS_pos f (by omega)]
      omega
    · rw [prevS_del_hi (by omega), show n - 1 + 1 = n by omega] at h2
      exact h2

/-- The longest gap, as often as there are gaps, is as long as all trips; and it is no longer than these. -/
theorem gap_sum {t : Int} {f : Nat → Int} {n : Nat} (h : gapOk t f n = true) : t ≤ gapOf t f n * (n + 1) ∧ gapOf t f n ≤ t := by
  obtain ⟨h0, h1, h2⟩ := (gapOf_le h).1 (Int.le_refl _)
  obtain ⟨ht, hs, ha⟩ := gapOk_iff.1 h
  have hl := stops_lt hs
  constructor
  · have hsum : ∀ k, k ≤ n → prevS f k ≤ gapOf t f n * k := by
      intro k hk
      induction k with
      | zero => simp [prevS]
      | succ k ih =>
        have a := ih (by omega)
        have b := h1 k (by omega)
        have e : gapOf t f n * ((k + 1 : Nat) : Int) = gapOf t f n * k + gapOf t f n := by rw [Int.natCast_add, Int.mul_add]; simp
        rw [e]
        show f k ≤ _
        omega
    have a := hsum n (Nat.le_refl _)
    have e : gapOf t f n * ((n : Int) + 1) = gapOf t f n * n + gapOf t f n := by rw [Int.mul_add]; simp
    omega
  · have hp : ∀ k, k ≤ n → 0 ≤ prevS f k := fun k hk => by
      cases k with
      | zero => simp [prevS]
      | succ k => have := (stopsB_iff.1 hs k (by omega)).1; simp only [prevS]; omega
    refine (gapOf_le h).2 ⟨by omega, fun i hi => ?_, ?_⟩
    · have := hp i (by omega); have := ha i hi; omega
    · have := hp n (Nat.le_refl _); omega

/-- Stops are enough for parts. -/
def serveP (gap : Int) (lasts : Nat → Int) (i : Nat) : Bool := decide (gap ≤ lasts i)
def serveB (t : Int) (lasts : Nat → Int) (m : Nat) (f : Nat → Int) (n : Nat) : Bool :=
  decide (0 ≤ gapOf t f n) && partsB lasts m && allB (serveP (gapOf t f n) lasts) m
theorem serveB_iff {t : Int} {lasts : Nat → Int} {m : Nat} {f : Nat → Int} {n : Nat} :
    serveB t lasts m f n = true ↔ gapOk t f n = true ∧ partsB lasts m = true ∧ ∀ i, i < m → gapOf t f n ≤ lasts i := by
  simp only [serveB, Bool.and_eq_true, decide_eq_true_eq, allB_iff, serveP, and_assoc]
  exact ⟨fun ⟨a, b, c⟩ => ⟨gapOf_ok a, b, c⟩, fun ⟨a, b, c⟩ => ⟨gapOf_nonneg a, b, c⟩⟩

/-- The least of the first n + 1 numbers. -/
def minTo (f : Nat → Int) : Nat → Int
  | 0 => f 0
  | k + 1 => min (minTo f k) (f (k + 1))
theorem minTo_le (f : Nat → Int) (n : Nat) : ∀ i, i ≤ n → minTo f n ≤ f i := by
  induction n with
  | zero => intro i hi; obtain rfl : i = 0 := (by omega); exact Int.le_refl _
  | succ n ih =>
    intro i hi
    simp only [minTo]
    by_cases e : i = n + 1
    · subst e; omega
    · have := ih i (by omega); omega
theorem minTo_mem (f : Nat → Int) (n : Nat) : ∃ i, i ≤ n ∧ minTo f n = f i := by
  induction n with
  | zero => exact ⟨0, Nat.le_refl _, rfl⟩
  | succ n ih =>
    obtain ⟨i, hi, e⟩ := ih
    simp only [minTo]
    by_cases h : minTo f n ≤ f (n + 1)
    · exact ⟨i, by omega, by omega⟩
    · exact ⟨n + 1, Nat.le_refl _, by omega⟩

/-- The least of 40 and the first n numbers. -/
def minS (f : Nat → Int) : Nat → Int
  | 0 => 40
  | k + 1 => min (minS f k) (f k)
theorem minS_le {f : Nat → Int} {k : Nat} (h : ∀ i, i < k → 1 ≤ f i) : 1 ≤ minS f k ∧ minS f k ≤ 40 := by
  induction k with
  | zero => simp [minS]
  | succ k ih =>
    have := ih (fun i hi => h i (by omega))
    have := h k (by omega)
    simp only [minS]; omega
theorem minS_eq {f : Nat → Int} {k : Nat} (h : ∀ i, i < k + 1 → f i ≤ 40) : minS f (k + 1) = minTo f k := by
  induction k with
  | zero => have := h 0 (by omega); simp only [minS, minTo]; omega
  | succ k ih =>
    have := ih (fun i hi => h i (by omega))
    show min (minS f (k + 1)) (f (k + 1)) = _
    rw [this]; rfl
/-- What FewestStops asks, and the least part. -/
def fewOk (t : Int) (l : Nat → Int) (m : Nat) : Bool := inB t 1 40 && partsB l m && !(m == 0)
def fewM (l : Nat → Int) (m : Nat) : Int := minTo l (m - 1)
theorem fewOk_iff {t : Int} {l : Nat → Int} {m : Nat} : fewOk t l m = true ↔ (1 ≤ t ∧ t ≤ 40) ∧ partsB l m = true ∧ 0 < m := by
  simp [fewOk, inB_iff, and_assoc]; omega
theorem fewM_bound {l : Nat → Int} {m : Nat} (h : partsB l m = true) (h0 : 0 < m) : 1 ≤ fewM l m ∧ fewM l m ≤ 40 := by
  obtain ⟨i, hi, e⟩ := minTo_mem l (m - 1)
  have := (partsB_iff.1 h).2 i (by omega)
  unfold fewM; omega

/-- How many multiples of m are below t. -/
def cntM (t m : Int) : Nat := ((t - 1) / m).toNat
def mulM (m : Int) (i : Nat) : Int := m * (i + 1)
theorem cntM_lt {t m : Int} (ht : 1 ≤ t) (hm : 1 ≤ m) (i : Nat) : i < cntM t m ↔ mulM m i < t := by
  have hnn : 0 ≤ (t - 1) / m := Int.ediv_nonneg (by omega) (by omega)
  have key : ((i : Int) + 1 ≤ (t - 1) / m) ↔ ((i : Int) + 1) * m ≤ t - 1 := Int.le_ediv_iff_mul_le (by omega)
  unfold cntM mulM
  rw [Int.mul_comm m]
  constructor
  · intro h
    have := key.1 (by omega)
    omega
  · intro h
    have := key.2 (by omega)
    omega
def fewN (t : Int) (l : Nat → Int) (m : Nat) : Nat := if fewOk t l m = true then cntM t (fewM l m) else 0
theorem fewN_yes {t : Int} {l : Nat → Int} {m : Nat} (h : fewOk t l m = true) : fewN t l m = cntM t (fewM l m) := by simp [fewN, h]
theorem fewN_no {t : Int} {l : Nat → Int} {m : Nat} (h : fewOk t l m = false) : fewN t l m = 0 := by simp [fewN, h]
theorem cntM_le {t m : Int} (ht : t ≤ 40) (hm : 1 ≤ m) : cntM t m ≤ 39 := by
  unfold cntM
  by_cases h : 0 ≤ t - 1
  · have := Int.ediv_le_self (a := t - 1) m h
    omega
  · have := Int.ediv_neg_of_neg_of_pos (a := t - 1) (b := m) (by omega) (by omega)
    omega
theorem mulM_succ (m : Int) (i : Nat) : mulM m (i + 1) = mulM m i + m := by
  simp only [mulM, Int.natCast_add, Int.mul_add]; simp
theorem prevS_mulM (m : Int) (i : Nat) : mulM m i - prevS (mulM m) i = m := by
  cases i with
  | zero => simp [prevS, mulM]
  | succ i => rw [mulM_succ]; simp only [prevS]; omega
theorem mulM_pos {m : Int} (hm : 1 ≤ m) (i : Nat) : 1 ≤ mulM m i := by
  induction i with
  | zero => simp [mulM]; omega
  | succ i ih => rw [mulM_succ]; omega

/-- The multiples of m below t are stops; no gap is longer than m. -/
theorem best_ok {t m : Int} (h1 : 1 ≤ t) (h2 : t ≤ 40) (hm : 1 ≤ m) : gapOk t (mulM m) (cntM t m) = true := by
  refine gapOk_iff.2 ⟨⟨h1, h2⟩, stopsB_iff.2 fun i hi => ?_, fun i hi => (cntM_lt h1 hm i).1 hi⟩
  have a := (cntM_lt h1 hm i).1 hi
  refine ⟨mulM_pos hm i, by omega, fun h0 => ?_⟩
  have e : i - 1 + 1 = i := by omega
  have := mulM_succ m (i - 1)
  rw [e] at this
  omega
theorem best_gap {t m : Int} (h1 : 1 ≤ t) (h2 : t ≤ 40) (hm : 1 ≤ m) : gapOf t (mulM m) (cntM t m) ≤ m := by
  refine (gapOf_le (best_ok h1 h2 hm)).2 ⟨by omega, fun i hi => by rw [prevS_mulM]; exact Int.le_refl _, ?_⟩
  have h := mt (cntM_lt h1 hm (cntM t m)).2 (Nat.lt_irrefl _)
  have := prevS_mulM m (cntM t m)
  omega
/-- Any one of them left out: a gap is longer than m. -/
theorem best_del {t m : Int} {k : Nat} (h1 : 1 ≤ t) (h2 : t ≤ 40) (hm : 1 ≤ m) (hk : k < cntM t m) : m < gapOf t (del (mulM m) k) (cntM t m - 1) := by
  have h' := del_ok (best_ok h1 h2 hm) hk
  obtain ⟨h0, ha, hb⟩ := (gapOf_le h').1 (Int.le_refl _)
  by_cases e : k < cntM t m - 1
  · have := ha k e
    rw [del_hi (Nat.le_refl _), prevS_del_lo (Nat.le_refl _), mulM_succ] at this
    have := prevS_mulM m k
    omega
  · have e1 : cntM t m - 1 = k := by omega
    rw [e1, prevS_del_lo (Nat.le_refl _)] at hb
    have := prevS_mulM m k
    have := (cntM_lt h1 hm k).1 hk
    rw [e1]
    omega
/-- Stops whose gaps are no longer than m come no later than the multiples of m, and are no fewer. -/
theorem best_least {t m : Int} {f : Nat → Int} {n : Nat} (h : gapOk t f n = true) (hm : 1 ≤ m) (hg : gapOf t f n ≤ m) :
    cntM t m ≤ n ∧ ∀ k, k < cntM t m → f k ≤ mulM m k := by
  obtain ⟨⟨h1, h2⟩, hs, ha⟩ := gapOk_iff.1 h
  obtain ⟨h0, hb, hc⟩ := (gapOf_le h).1 hg
  have hle : ∀ k, k ≤ n → prevS f k ≤ m * k := by
    intro k hk
    induction k with
    | zero => simp [prevS]
    | succ k ih =>
      have := ih (by omega)
      have := hb k (by omega)
      have e : m * ((k + 1 : Nat) : Int) = m * k + m := by rw [Int.natCast_add, Int.mul_add]; simp
      rw [e]; show f k ≤ _; omega
  have hcn : cntM t m ≤ n := by
    refine Nat.le_of_not_lt fun hlt => ?_
    have := (cntM_lt h1 hm n).1 hlt
    have := hle n (Nat.le_refl _)
    have e : mulM m n = m * n + m := by simp only [mulM, Int.mul_add]; simp
    omega
  refine ⟨hcn, fun k hk => ?_⟩
  have := hle (k + 1) (by omega)
  show f k ≤ m * (k + 1)
  simpa [prevS] using this
end Go.Proofs.Ytnpignenikkmiaa
