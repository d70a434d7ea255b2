/-
  A building and its tick, in plain Lean. No program stands here.
-/
import Derived.Test.YtailpiagjemhpaaPlain
import Derived.Test.YtailpiagjemhpaaPeopleM
namespace Go.Proofs.Ytailpiagjemhpaa

/-! ### the car -/
def motionB (a s : Int) : Bool := inB a 0 60 && inB s (-5) 5
/-- The way in which a car with the speed s stops. -/
def brake (s : Int) : Int := if s < 0 then -(s * (s + 1) / 2) else s * (s - 1) / 2
def brakeOf (s : Int) : Int := if inB s (-5) 5 = true then brake s else 0
/-- Whether a valid car can stop at a target. -/
def stopT (a s t : Int) : Bool := if 0 < s then decide (a + brake s ≤ t) else if s < 0 then decide (t ≤ a + brake s) else true
def canStop (a s t : Int) : Bool := motionB a s && inB t 0 60 && stopT a s t
/-- A car at a with the speed v behind the next tick can stop at t. -/
def fitB (a t v : Int) : Bool := canStop (a + v) v t
/-- The speed with which a car that can stop at t is driven there. -/
def drv (a s t : Int) : Int :=
  if a ≤ t then (if fitB a t (s + 1) = true then s + 1 else if fitB a t s = true then s else if fitB a t (s - 1) = true then s - 1 else 0)
  else (if fitB a t (s - 1) = true then s - 1 else if fitB a t s = true then s else if fitB a t (s + 1) = true then s + 1 else 0)
def newSpeed (a s t : Int) : Int := if canStop a s t = true then drv a s t else if 0 < s then s - 1 else s + 1
/-- A car behind a tick in which it is driven to t. -/
def stepAt (a s t : Int) : Int := if a + newSpeed a s t < 0 then 0 else if 60 < a + newSpeed a s t then 60 else a + newSpeed a s t
def stepSp (a s t : Int) : Int := if a + newSpeed a s t < 0 then 0 else if 60 < a + newSpeed a s t then 0 else newSpeed a s t

theorem brake_val : brake 0 = 0 ∧ brake 1 = 0 ∧ brake 2 = 1 ∧ brake 3 = 3 ∧ brake 4 = 6 ∧ brake 5 = 10 ∧ brake (-1) = 0 ∧ brake (-2) = -1 ∧ brake (-3) = -3 ∧ brake (-4) = -6 ∧ brake (-5) = -10 := by decide
theorem speeds {s : Int} (h : inB s (-5) 5 = true) : s = -5 ∨ s = -4 ∨ s = -3 ∨ s = -2 ∨ s = -1 ∨ s = 0 ∨ s = 1 ∨ s = 2 ∨ s = 3 ∨ s = 4 ∨ s = 5 := by
  have := inB_iff.1 h; omega
/-- The way to stop has the sign of the speed, and grows. -/
theorem brake_sign {s : Int} (h : inB s (-5) 5 = true) : (0 ≤ s → 0 ≤ brake s ∧ brake s ≤ 10) ∧ (s ≤ 0 → brake s ≤ 0 ∧ -10 ≤ brake s) := by
  rcases speeds h with rfl | rfl | rfl | rfl | rfl | rfl | rfl | rfl | rfl | rfl | rfl <;> decide
theorem brake_less {s : Int} (h : inB s (-5) 5 = true) : (1 ≤ s → brake s = brake (s - 1) + (s - 1)) ∧ (s ≤ -1 → brake s = brake (s + 1) + (s + 1)) := by
  rcases speeds h with rfl | rfl | rfl | rfl | rfl | rfl | rfl | rfl | rfl | rfl | rfl <;> decide
theorem fit_iff {a t v : Int} : fitB a t v = true ↔ (0 ≤ a + v ∧ a + v ≤ 60) ∧ (-5 ≤ v ∧ v ≤ 5) ∧ (0 ≤ t ∧ t ≤ 60) ∧ (0 < v → a + v + brake v ≤ t) ∧ (v < 0 → t ≤ a + v + brake v) := by
  simp only [fitB, canStop, motionB, stopT, Bool.and_eq_true, inB_iff]
  by_cases h1 : 0 < v
  · simp [h1]; omega
  · by_cases h2 : v < 0
    · simp [h1, h2]; omega
    · simp [h1, h2]; omega
theorem canStop_iff {a s t : Int} : canStop a s t = true ↔ (0 ≤ a ∧ a ≤ 60) ∧ (-5 ≤ s ∧ s ≤ 5) ∧ (0 ≤ t ∧ t ≤ 60) ∧ (0 < s → a + brake s ≤ t) ∧ (s < 0 → t ≤ a + brake s) := by
  have := @fit_iff (a - s) t s
  simp only [fitB] at this
  rwa [show a - s + s = a by omega] at this
/-- What can stop does not go past the target. -/
theorem fit_ahead {a t v : Int} (h : fitB a t v = true) : (0 < v → a + v ≤ t) ∧ (v < 0 → t ≤ a + v) := by
  obtain ⟨h1, h2, h3, h4, h5⟩ := fit_iff.1 h
  have hb := brake_sign (inB_iff.2 h2)
  exact ⟨fun h => by have := h4 h; have := hb.1 (by omega); omega, fun h => by have := h5 h; have := hb.2 (by omega); omega⟩
/-- A car that can stop, or that brakes, has a next speed with which it can stop. -/
theorem drv_fits {a s t : Int} (h : canStop a s t = true) : fitB a t (drv a s t) = true ∧ (drv a s t = s - 1 ∨ drv a s t = s ∨ drv a s t = s + 1) := by
  obtain ⟨h1, h2, h3, h4, h5⟩ := canStop_iff.1 h
  have hb := brake_less (inB_iff.2 h2)
  have hs := brake_sign (inB_iff.2 h2)
  have key : fitB a t (s - 1) = true ∨ fitB a t s = true ∨ fitB a t (s + 1) = true := by
    rcases Int.lt_trichotomy s 0 with h0 | h0 | h0
    · right; right
      rw [fit_iff]
      have e := hb.2 (by omega)
      have := h5 h0
      have hs' := brake_sign (s := s + 1) (inB_iff.2 (by omega))
      refine ⟨by have := hs.2 (by omega); omega, by omega, h3, fun h => by omega, fun h => by omega⟩
    · right; left
      rw [fit_iff]
      subst h0
      exact ⟨by omega, by omega, h3, fun h => by omega, fun h => by omega⟩
    · left
      rw [fit_iff]
      have e := hb.1 (by omega)
      have := h4 h0
      have hs' := brake_sign (s := s - 1) (inB_iff.2 (by omega))
      refine ⟨by have := hs'.1 (by omega); omega, by omega, h3, fun h => by omega, fun h => by omega⟩
  unfold drv
  by_cases hat : a ≤ t
  · rw [if_pos hat]
    split
    · exact ⟨by assumption, by omega⟩
    · split
      · exact ⟨by assumption, by omega⟩
      · split
        · exact ⟨by assumption, by omega⟩
        · rcases key with k | k | k <;> exact absurd k (by assumption)
  · rw [if_neg hat]
    split
    · exact ⟨by assumption, by omega⟩
    · split
      · exact ⟨by assumption, by omega⟩
      · split
        · exact ⟨by assumption, by omega⟩
        · rcases key with k | k | k <;> exact absurd k (by assumption)
theorem newSpeed_range {a s t : Int} (h : motionB a s = true) (ht : inB t 0 60 = true) : -5 ≤ newSpeed a s t ∧ newSpeed a s t ≤ 5 := by
  simp only [motionB, Bool.and_eq_true, inB_iff] at h
  unfold newSpeed
  split
  · rename_i hc
    have := (fit_iff.1 (drv_fits hc).1).2.1
    omega
  · rename_i hc
    have h0 : s ≠ 0 := by
      intro h0
      apply hc
      rw [canStop_iff]
      exact ⟨h.1, h.2, inB_iff.1 ht, fun h => by omega, fun h => by omega⟩
    split <;> omega
theorem step_valid {a s t : Int} (h : motionB a s = true) (ht : inB t 0 60 = true) : motionB (stepAt a s t) (stepSp a s t) = true := by
  have hr := newSpeed_range h ht
  simp only [motionB, Bool.and_eq_true, inB_iff]
  unfold stepAt stepSp
  constructor
  · split
    · omega
    · split <;> omega
  · split
    · omega
    · split <;> omega
/-- How many ticks at most a car drives to t. -/
def driveM (a s t : Int) : Nat := if canStop a s t = true then (if a ≤ t then (t - a).toNat else (a - t).toNat) + (if s = 0 then 0 else 1) else 100 + s.toNat + (-s).toNat
theorem driveM_le {a s t : Int} (h : motionB a s = true) (ht : inB t 0 60 = true) : driveM a s t ≤ 105 := by
  simp only [motionB, Bool.and_eq_true, inB_iff] at h
  have := inB_iff.1 ht
  unfold driveM
  split
  · split <;> split <;> omega
  · omega
end Go.Proofs.Ytailpiagjemhpaa
