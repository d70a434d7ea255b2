/-
  Where a car stops next: what the loops of both texts keep, in plain Lean. No program stands here.
-/
import Derived.Test.YthkpikkjgggimaaGreatDoorCallM
namespace Go.Proofs.YthkpikkjgggimaaGreatDoor
set_option linter.unusedVariables false
set_option linter.unusedSimpArgs false

theorem firstP_at {p : Nat → Bool} {j N : Nat} (h : ∀ i, i < j → p i = false) (hp : p j = true) (hj : j < N) : firstP p N = j := by
  obtain ⟨a, b, c⟩ := firstP_spec p N
  rcases Nat.lt_trichotomy (firstP p N) j with h1 | h1 | h1
  · have := c (by omega); rw [h _ h1] at this; cases this
  · exact h1
  · have := b j h1; rw [hp] at this; cases this
theorem firstP_all {p : Nat → Bool} {N : Nat} (h : ∀ i, i < N → p i = false) : firstP p N = N := by
  obtain ⟨a, b, c⟩ := firstP_spec p N
  rcases Nat.lt_or_ge (firstP p N) N with h1 | h1
  · have := c h1; rw [h _ h1] at this; cases this
  · omega
/-- The last floor found behind j of them, and the direction from there. -/
def backFl (up dn : Nat → Bool) (fl dir : Int) (j : Nat) : Int := if lastP (backP up dn fl dir) j = 0 then -1 else (place fl dir (lastP (backP up dn fl dir) j - 1) : Nat)
def backDir (up dn : Nat → Bool) (fl dir : Int) (j : Nat) : Int := if lastP (backP up dn fl dir) j = 0 then 0 else -dir
theorem back_zero {up dn : Nat → Bool} {fl dir : Int} : backFl up dn fl dir 0 = -1 ∧ backDir up dn fl dir 0 = 0 := by simp [backFl, backDir, lastP]
theorem back_yes {up dn : Nat → Bool} {fl dir : Int} {j : Nat} (h : backP up dn fl dir j = true) : backFl up dn fl dir (j + 1) = (place fl dir j : Nat) ∧ backDir up dn fl dir (j + 1) = -dir := by
  simp [backFl, backDir, lastP, h]
theorem back_not {up dn : Nat → Bool} {fl dir : Int} {j : Nat} (h : backP up dn fl dir j = false) : backFl up dn fl dir (j + 1) = backFl up dn fl dir j ∧ backDir up dn fl dir (j + 1) = backDir up dn fl dir j := by
  simp [backFl, backDir, lastP, h]
theorem toward_hit {n : Nat} {up dn car : Nat → Bool} {fl dir : Int} {j : Nat} (h : ∀ i, i < j → hitP up dn car fl dir i = false) (hp : hitP up dn car fl dir j = true) (hj : j < ways n fl dir) :
    towardFl n up dn car fl dir = (place fl dir j : Nat) ∧ towardDir n up dn car fl dir = dir := by
  have e := firstP_at h hp hj
  simp [towardFl, towardDir, e, hj]
theorem toward_end {n : Nat} {up dn car : Nat → Bool} {fl dir : Int} (h : ∀ i, i < ways n fl dir → hitP up dn car fl dir i = false) :
    towardFl n up dn car fl dir = backFl up dn fl dir (ways n fl dir) ∧ towardDir n up dn car fl dir = backDir up dn fl dir (ways n fl dir) := by
  have e := firstP_all h
  simp [towardFl, towardDir, e, backFl, backDir]
theorem toward_bd {n : Nat} {up dn car : Nat → Bool} {fl dir : Int} (h0 : 0 ≤ fl) (h1 : fl < n) : -1 ≤ towardFl n up dn car fl dir ∧ towardFl n up dn car fl dir < n := by
  unfold towardFl
  obtain ⟨a, b, c⟩ := firstP_spec (hitP up dn car fl dir) (ways n fl dir)
  obtain ⟨a', b', c'⟩ := lastP_spec (backP up dn fl dir) (ways n fl dir)
  split
  · rename_i hlt
    have := place_lt (dir := dir) h0 h1 hlt
    omega
  · split
    · omega
    · have := place_lt (n := n) (dir := dir) (j := lastP (backP up dn fl dir) (ways n fl dir) - 1) h0 h1 (by omega)
      omega
theorem toward_none {n : Nat} {up dn car : Nat → Bool} {fl dir : Int} (h : towardFl n up dn car fl dir < 0) : towardFl n up dn car fl dir = -1 ∧ towardDir n up dn car fl dir = 0 := by
  unfold towardFl towardDir at *
  split
  · rename_i hlt; rw [if_pos hlt] at h; omega
  · rename_i hlt
    rw [if_neg hlt] at h
    split
    · exact ⟨rfl, rfl⟩
    · rename_i hz; rw [if_neg hz] at h; omega
theorem place_of {fl dir x : Int} {j : Nat} (hd : dir = 1 ∨ dir = -1) (h0 : 0 ≤ fl) (hx : x = fl + dir * j) (hx0 : 0 ≤ x) : ((place fl dir j : Nat) : Int) = x := by
  rcases hd with rfl | rfl
  · simp [place]; omega
  · simp [place]; omega
theorem ways_lt {n : Nat} {fl dir x : Int} {j : Nat} (hd : dir = 1 ∨ dir = -1) (h0 : 0 ≤ fl) (hx : x = fl + dir * j) (hx0 : 0 ≤ x) (hx1 : x < n) : j < ways n fl dir := by
  rcases hd with rfl | rfl
  · simp [ways]; omega
  · simp [ways]; omega
theorem ways_end {n : Nat} {fl dir x : Int} {j : Nat} (hd : dir = 1 ∨ dir = -1) (h0 : 0 ≤ fl) (h1 : fl < n) (hj : j ≤ ways n fl dir) (hx : x = fl + dir * j) (hx0 : x < 0 ∨ n ≤ x) : j = ways n fl dir := by
  rcases hd with rfl | rfl
  · simp [ways] at *; omega
  · simp [ways] at *; omega
theorem pos_succ {fl dir x : Int} {j : Nat} (hx : x = fl + dir * j) : x + dir = fl + dir * ((j + 1 : Nat) : Int) := by
  rw [hx]; simp [Int.mul_add]; omega
/-- What a round that looks at floor k knows. -/
theorem round_facts {n : Nat} {up dn car : Nat → Bool} {fl dir : Int} {j k : Nat} (hd : dir = 1 ∨ dir = -1) (h0 : 0 ≤ fl) (hx : (k : Int) = fl + dir * j) (hk : k < n) :
    place fl dir j = k ∧ j < ways n fl dir ∧ hitP up dn car fl dir j = (car k || callGo up dn k dir) ∧ backP up dn fl dir j = callGo up dn k (-dir) := by
  have e : place fl dir j = k := by have := place_of hd h0 hx (by omega); omega
  exact ⟨e, ways_lt hd h0 hx (by omega) (by omega), by simp [hitP, e], by simp [backP, e]⟩
theorem none_succ {p : Nat → Bool} {j : Nat} (h : ∀ i, i < j → p i = false) (hj : p j = false) : ∀ i, i < j + 1 → p i = false := by
  intro i hi
  by_cases e : i = j
  · rw [e]; exact hj
  · exact h i (by omega)
/-- The calls that are left behind a stop. -/
def serveUp (up : Nat → Bool) (fl dir : Int) : Nat → Bool := if 0 < dir then updB up fl.toNat false else up
def serveDn (dn : Nat → Bool) (fl dir : Int) : Nat → Bool := if 0 < dir then dn else updB dn fl.toNat false
def serveCar (car : Nat → Bool) (fl : Int) : Nat → Bool := updB car fl.toNat false
theorem serve_calls {n : Nat} {up dn : Nat → Bool} (h : callsB n n n up dn = true) (fl dir : Int) : callsB n n n (serveUp up fl dir) (serveDn dn fl dir) = true := by
  obtain ⟨h1, h2, _, _, h5, h6⟩ := callsB_iff.1 h
  refine callsB_iff.2 ⟨h1, h2, rfl, rfl, ?_, ?_⟩
  · unfold serveUp; split
    · unfold updB; split
      · rfl
      · exact h5
    · exact h5
  · unfold serveDn; split
    · exact h6
    · unfold updB; split
      · rfl
      · exact h6
end Go.Proofs.YthkpikkjgggimaaGreatDoor
