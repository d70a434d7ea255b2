/-
  Which speed a car is driven with: the loops of both texts give the same, in plain Lean. No program stands here.
-/
import Derived.Test.YthkpikkjgggimaaGreatDoorMove
namespace Go.Proofs.YthkpikkjgggimaaGreatDoor
set_option linter.unusedVariables false
set_option linter.unusedSimpArgs false

def distI (x y : Int) : Int := if x < y then y - x else x - y
theorem distI_bd {x y : Int} : 0 ≤ distI x y := by unfold distI; split <;> omega
/-- The best speed found, and whether one is found, behind k candidates. -/
def foldV (fit : Int → Bool) (bet : Int → Int → Bool) (s : Int) : Nat → Int × Bool
  | 0 => (0, false)
  | k + 1 => if (fit (s - 1 + k) && (!(foldV fit bet s k).2 || bet (s - 1 + k) (foldV fit bet s k).1)) = true then (s - 1 + k, true) else foldV fit bet s k
theorem foldV_bd {fit : Int → Bool} {bet : Int → Int → Bool} {s : Int} (hs : -5 ≤ s ∧ s ≤ 5) : ∀ k, k ≤ 3 → -6 ≤ (foldV fit bet s k).1 ∧ (foldV fit bet s k).1 ≤ 6 := by
  intro k
  induction k with
  | zero => intro _; simp [foldV]
  | succ k ih =>
    intro hk
    have := ih (by omega)
    simp only [foldV]
    split
    · simp only; omega
    · exact this
theorem foldV_no {fit : Int → Bool} {bet : Int → Int → Bool} {s : Int} {k : Nat} (h : fit (s - 1 + k) = false) : foldV fit bet s (k + 1) = foldV fit bet s k := by
  simp [foldV, h]
theorem foldV_first {fit : Int → Bool} {bet : Int → Int → Bool} {s : Int} {k : Nat} (h : fit (s - 1 + k) = true) (h' : (foldV fit bet s k).2 = false) : foldV fit bet s (k + 1) = (s - 1 + k, true) := by
  simp [foldV, h, h']
theorem foldV_bet {fit : Int → Bool} {bet : Int → Int → Bool} {s : Int} {k : Nat} (h : fit (s - 1 + k) = true) (h' : bet (s - 1 + k) (foldV fit bet s k).1 = true) : foldV fit bet s (k + 1) = (s - 1 + k, true) := by
  simp [foldV, h, h']
theorem foldV_not {fit : Int → Bool} {bet : Int → Int → Bool} {s : Int} {k : Nat} (h0 : (foldV fit bet s k).2 = true) (h' : bet (s - 1 + k) (foldV fit bet s k).1 = false) : foldV fit bet s (k + 1) = foldV fit bet s k := by
  simp [foldV, h0, h']

def betI (a t v b : Int) : Bool := decide (distI (a + v) t < distI (a + b) t)
def betS (a t v b : Int) : Bool := if a ≤ t then decide (b < v) else decide (v < b)
theorem betI_of {a t v b : Int} (hv : fitB a t v = true) (hb : fitB a t b = true) : betI a t v b = betS a t v b := by
  obtain ⟨v1, v2⟩ := fit_ahead hv
  obtain ⟨b1, b2⟩ := fit_ahead hb
  unfold betI betS distI
  rw [Bool.eq_iff_iff]
  by_cases h : a ≤ t
  · rw [if_pos h]
    have v3 : a + v ≤ t := by
      by_cases e : 0 < v
      · exact v1 e
      · omega
    have b3 : a + b ≤ t := by
      by_cases e : 0 < b
      · exact b1 e
      · omega
    simp only [decide_eq_true_eq]
    split <;> split <;> omega
  · rw [if_neg h]
    have v3 : t ≤ a + v := by
      by_cases e : v < 0
      · exact v2 e
      · omega
    have b3 : t ≤ a + b := by
      by_cases e : b < 0
      · exact b2 e
      · omega
    simp only [decide_eq_true_eq]
    split <;> split <;> omega
theorem foldV_fit {fit : Int → Bool} {bet : Int → Int → Bool} {s : Int} : ∀ k, (foldV fit bet s k).2 = true → fit (foldV fit bet s k).1 = true := by
  intro k
  induction k with
  | zero => intro h; simp [foldV] at h
  | succ k ih =>
    simp only [foldV]
    split
    · rename_i h
      intro _
      simp only [Bool.and_eq_true] at h
      exact h.1
    · exact ih
theorem foldV_congr {fit : Int → Bool} {bet bet' : Int → Int → Bool} {s : Int} (h : ∀ v b, fit v = true → fit b = true → bet v b = bet' v b) : ∀ k, foldV fit bet s k = foldV fit bet' s k := by
  intro k
  induction k with
  | zero => rfl
  | succ k ih =>
    simp only [foldV, ih]
    by_cases hf : fit (s - 1 + k) = true
    · by_cases h2 : (foldV fit bet' s k).2 = true
      · rw [h _ _ hf (foldV_fit k h2)]
      · simp [h2]
    · simp [hf]
theorem foldS_drv {a s t : Int} (hc : canStop a s t = true) : (foldV (fitB a t) (betS a t) s 3).1 = drv a s t := by
  have key := drv_fits hc
  have e0 : s - 1 + ((0 : Nat) : Int) = s - 1 := by simp
  have e1 : s - 1 + ((1 : Nat) : Int) = s := by simp <;> omega
  have e2 : s - 1 + ((2 : Nat) : Int) = s + 1 := by simp <;> omega
  simp only [foldV, e0, e1, e2]
  have q1 : s - 1 < s := by omega
  have q2 : s < s + 1 := by omega
  have q3 : s - 1 < s + 1 := by omega
  have q4 : ¬ s < s - 1 := by omega
  have q5 : ¬ s + 1 < s := by omega
  have q6 : ¬ s + 1 < s - 1 := by omega
  revert key
  unfold drv betS
  by_cases hat : a ≤ t
  · simp only [if_pos hat]
    cases h1 : fitB a t (s - 1) <;> cases h2 : fitB a t s <;> cases h3 : fitB a t (s + 1) <;> simp [h1, h2, h3, q1, q2, q3, q4, q5, q6] <;> omega
  · simp only [if_neg hat]
    cases h1 : fitB a t (s - 1) <;> cases h2 : fitB a t s <;> cases h3 : fitB a t (s + 1) <;> simp [h1, h2, h3, q1, q2, q3, q4, q5, q6] <;> omega
theorem foldI_drv {a s t : Int} (hc : canStop a s t = true) : (foldV (fitB a t) (betI a t) s 3).1 = drv a s t := by
  rw [foldV_congr (fit := fitB a t) (bet := betI a t) (bet' := betS a t) (fun v b hv hb => betI_of hv hb)]
  exact foldS_drv hc
/-- Where a car is, and its speed, behind a tick with a speed. -/
def endAt (a v : Int) : Int := if a + v < 0 then 0 else if 60 < a + v then 60 else a + v
def endSp (a v : Int) : Int := if a + v < 0 then 0 else if 60 < a + v then 0 else v
theorem newSpeed_yes {a s t : Int} (h : canStop a s t = true) : newSpeed a s t = drv a s t := by simp [newSpeed, h]
theorem newSpeed_up {a s t : Int} (h : canStop a s t = false) (h0 : 0 < s) : newSpeed a s t = s - 1 := by simp [newSpeed, h, h0]
theorem newSpeed_dn {a s t : Int} (h : canStop a s t = false) (h0 : ¬ 0 < s) : newSpeed a s t = s + 1 := by simp [newSpeed, h, h0]
theorem end_low {a v : Int} (h : a + v < 0) : endAt a v = 0 ∧ endSp a v = 0 := by simp [endAt, endSp, h]
theorem end_high {a v : Int} (h : 60 < a + v) : endAt a v = 60 ∧ endSp a v = 0 := by
  have : ¬ a + v < 0 := by omega
  simp [endAt, endSp, h, this]
theorem end_in {a v : Int} (h : 0 ≤ a + v) (h' : a + v ≤ 60) : endAt a v = a + v ∧ endSp a v = v := by
  have h1 : ¬ a + v < 0 := by omega
  have h2 : ¬ 60 < a + v := by omega
  simp [endAt, endSp, h1, h2]
end Go.Proofs.YthkpikkjgggimaaGreatDoor
