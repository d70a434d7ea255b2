/-
  A building, its calls and its tick, in plain Lean. No program stands here.
-/
import Derived.Test.YtailpiagjemhpaaBuildM
namespace Go.Proofs.Ytailpiagjemhpaa
set_option linter.unusedVariables false
set_option linter.unusedSimpArgs false

/-! ### calls -/
def callsB (nu nd nc : Nat) (up dn : Nat → Bool) : Bool := decide (1 ≤ nu) && decide (nu ≤ 8) && (nd == nu) && (nc == nu) && !(up (nu - 1)) && !(dn 0)
theorem callsB_iff {nu nd nc : Nat} {up dn : Nat → Bool} : callsB nu nd nc up dn = true ↔ 1 ≤ nu ∧ nu ≤ 8 ∧ nd = nu ∧ nc = nu ∧ up (nu - 1) = false ∧ dn 0 = false := by
  simp [callsB, and_assoc]
/-- p, but v at k. -/
def updB (p : Nat → Bool) (k : Nat) (v : Bool) (i : Nat) : Bool := if i = k then v else p i
def cntB (p : Nat → Bool) : Nat → Nat
  | 0 => 0
  | n + 1 => cntB p n + if p n = true then 1 else 0
theorem cntB_le (p : Nat → Bool) (n : Nat) : cntB p n ≤ n := by
  induction n with
  | zero => exact Nat.le_refl _
  | succ n ih => simp only [cntB]; split <;> omega
theorem cntB_zero {p : Nat → Bool} {n : Nat} : cntB p n = 0 ↔ ∀ i, i < n → p i = false := by
  induction n with
  | zero => simp [cntB]
  | succ n ih =>
    simp only [cntB]
    constructor
    · intro h i hi
      have h1 : cntB p n = 0 := by omega
      by_cases e : i = n
      · subst e
        cases hp : p i
        · rfl
        · rw [hp] at h; simp at h
      · exact ih.1 h1 i (by omega)
    · intro h
      rw [ih.2 (fun i hi => h i (by omega)), h n (by omega)]; simp
theorem cntB_congr {p q : Nat → Bool} {n : Nat} (h : ∀ i, i < n → p i = q i) : cntB p n = cntB q n := by
  induction n with
  | zero => rfl
  | succ n ih => simp only [cntB]; rw [ih (fun i hi => h i (by omega)), h n (by omega)]
/-- Without a call that is there there is one less, without another one as many. -/
theorem cntB_upd (p : Nat → Bool) (k : Nat) : ∀ n, cntB (updB p k false) n + (if k < n ∧ p k = true then 1 else 0) = cntB p n := by
  intro n
  induction n with
  | zero => simp [cntB]
  | succ n ih =>
    simp only [cntB]
    by_cases e : n = k
    · subst e
      have h1 : cntB (updB p n false) n = cntB p n := cntB_congr (fun i hi => by simp [updB, show i ≠ n by omega])
      cases hp : p n <;> simp [h1, updB, hp]
    · have h1 : updB p k false n = p n := by simp [updB, e]
      rw [h1]
      by_cases hk : k < n
      · have hk' : k < n + 1 := by omega
        simp only [hk, hk', true_and] at ih ⊢; omega
      · have hk' : ¬ k < n + 1 := by omega
        simp only [hk, hk', false_and, if_false] at ih ⊢; omega
theorem cntB_upd_le (p : Nat → Bool) (k n : Nat) : cntB (updB p k false) n ≤ cntB p n := by
  have := cntB_upd p k n; omega

structure Bld where
  n : Nat
  f : Nat → Int
  pos : Int
  sp : Int
  gap : Int
  hold : Int
  nu : Nat
  up : Nat → Bool
  nd : Nat
  dn : Nat → Bool
  nc : Nat
  car : Nat → Bool
  fl : Int
  dir : Int
  op : Bool

def doorB (g h : Int) : Bool := inB g 0 4 && inB h 0 3 && (decide (h = 0) || decide (g = 4))
def standF (f : Nat → Int) (n : Nat) (pos sp : Int) : Int := if sp = 0 then floorAtOf f n pos else -1
def liftB (f : Nat → Int) (n : Nat) (pos sp gap hold : Int) : Bool := floorsB f n && motionB pos sp && doorB gap hold && (decide (gap = 0) || decide (0 ≤ standF f n pos sp))
def haltB (n : Nat) (st gap fl dir : Int) (op : Bool) : Bool :=
  (decide (dir = 1) || decide (dir = -1)) && (if fl = -1 then decide (0 ≤ st) else (inB fl 0 ((n : Int) - 1) && decide (gap = 0) && !op))
def Bld.stand (b : Bld) : Int := standF b.f b.n b.pos b.sp
def Bld.valid (b : Bld) : Bool := liftB b.f b.n b.pos b.sp b.gap b.hold && callsB b.nu b.nd b.nc b.up b.dn && (b.nu == b.n) && haltB b.n b.stand b.gap b.fl b.dir b.op
theorem doorB_iff {g h : Int} : doorB g h = true ↔ (0 ≤ g ∧ g ≤ 4) ∧ (0 ≤ h ∧ h ≤ 3) ∧ (h = 0 ∨ g = 4) := by
  simp [doorB, inB_iff, and_assoc]
theorem motionB_iff {a s : Int} : motionB a s = true ↔ (0 ≤ a ∧ a ≤ 60) ∧ (-5 ≤ s ∧ s ≤ 5) := by
  simp [motionB, inB_iff]
theorem liftB_iff {f : Nat → Int} {n : Nat} {pos sp gap hold : Int} : liftB f n pos sp gap hold = true ↔ floorsB f n = true ∧ motionB pos sp = true ∧ doorB gap hold = true ∧ (gap = 0 ∨ 0 ≤ standF f n pos sp) := by
  simp [liftB, and_assoc]
theorem haltB_iff {n : Nat} {st gap fl dir : Int} {op : Bool} : haltB n st gap fl dir op = true ↔ (dir = 1 ∨ dir = -1) ∧ ((fl = -1 ∧ 0 ≤ st) ∨ ((0 ≤ fl ∧ fl < n) ∧ gap = 0 ∧ op = false)) := by
  unfold haltB
  by_cases h : fl = -1
  · simp [h]
  · simp [h, inB_iff, and_assoc]
    intro _ _ _ _
    omega
structure Bld.Ok (b : Bld) : Prop where
  floors : floorsB b.f b.n = true
  motion : motionB b.pos b.sp = true
  door : doorB b.gap b.hold = true
  shut : b.gap = 0 ∨ 0 ≤ b.stand
  calls : callsB b.nu b.nd b.nc b.up b.dn = true
  same : b.nu = b.n
  way : b.dir = 1 ∨ b.dir = -1
  halt : (b.fl = -1 ∧ 0 ≤ b.stand) ∨ ((0 ≤ b.fl ∧ b.fl < b.n) ∧ b.gap = 0 ∧ b.op = false)
theorem valid_iff {b : Bld} : b.valid = true ↔ b.Ok := by
  simp only [Bld.valid, Bool.and_eq_true, liftB_iff, haltB_iff, beq_iff_eq]
  exact ⟨fun ⟨⟨⟨⟨a, b, c, d⟩, e⟩, f⟩, g, h⟩ => ⟨a, b, c, d, e, f, g, h⟩, fun ⟨a, b, c, d, e, f, g, h⟩ => ⟨⟨⟨⟨a, b, c, d⟩, e⟩, f⟩, g, h⟩⟩

/-! ### where a car stops next -/
/-- How many floors there are from one on in a direction, and the floor so many further. -/
def ways (n : Nat) (fl dir : Int) : Nat := if 0 < dir then n - fl.toNat else fl.toNat + 1
def place (fl dir : Int) (j : Nat) : Nat := if 0 < dir then fl.toNat + j else fl.toNat - j
def callGo (up dn : Nat → Bool) (k : Nat) (dir : Int) : Bool := if 0 < dir then up k else dn k
def hitP (up dn car : Nat → Bool) (fl dir : Int) (j : Nat) : Bool := car (place fl dir j) || callGo up dn (place fl dir j) dir
def backP (up dn : Nat → Bool) (fl dir : Int) (j : Nat) : Bool := callGo up dn (place fl dir j) (-dir)
/-- One more than the last place below n at which p holds; 0 if there is none. -/
def lastP (p : Nat → Bool) : Nat → Nat
  | 0 => 0
  | n + 1 => if p n = true then n + 1 else lastP p n
theorem lastP_spec (p : Nat → Bool) (n : Nat) : lastP p n ≤ n ∧ (0 < lastP p n → p (lastP p n - 1) = true) ∧ (∀ i, lastP p n ≤ i → i < n → p i = false) := by
  induction n with
  | zero => simp [lastP]
  | succ n ih =>
    simp only [lastP]
    split
    · rename_i h
      exact ⟨Nat.le_refl _, fun _ => by rw [Nat.add_sub_cancel]; exact h, fun i h1 h2 => by omega⟩
    · rename_i h
      refine ⟨by omega, ih.2.1, fun i h1 h2 => ?_⟩
      by_cases e : i = n
      · subst e; simpa using h
      · exact ih.2.2 i h1 (by omega)
def towardFl (n : Nat) (up dn car : Nat → Bool) (fl dir : Int) : Int :=
  if firstP (hitP up dn car fl dir) (ways n fl dir) < ways n fl dir then (place fl dir (firstP (hitP up dn car fl dir) (ways n fl dir)) : Nat)
  else if lastP (backP up dn fl dir) (ways n fl dir) = 0 then -1 else (place fl dir (lastP (backP up dn fl dir) (ways n fl dir) - 1) : Nat)
def towardDir (n : Nat) (up dn car : Nat → Bool) (fl dir : Int) : Int :=
  if firstP (hitP up dn car fl dir) (ways n fl dir) < ways n fl dir then dir
  else if lastP (backP up dn fl dir) (ways n fl dir) = 0 then 0 else -dir
def nextFl (n : Nat) (up dn car : Nat → Bool) (fl dir : Int) : Int := if towardFl n up dn car fl dir < 0 then towardFl n up dn car fl (-dir) else towardFl n up dn car fl dir
def nextDir (n : Nat) (up dn car : Nat → Bool) (fl dir : Int) : Int := if towardFl n up dn car fl dir < 0 then towardDir n up dn car fl (-dir) else towardDir n up dn car fl dir

/-- What a stop is for: there is a call in the car for its floor, or one to go on. -/
def servedB (up dn car : Nat → Bool) (fl dir : Int) : Prop := car fl.toNat = true ∨ callGo up dn fl.toNat dir = true
theorem place_lt {n : Nat} {fl dir : Int} {j : Nat} (h0 : 0 ≤ fl) (h1 : fl < n) (hj : j < ways n fl dir) : place fl dir j < n := by
  unfold ways at hj; unfold place
  by_cases h : 0 < dir
  · rw [if_pos h] at hj ⊢; omega
  · rw [if_neg h] at hj ⊢; omega
theorem toward_yes {n : Nat} {up dn car : Nat → Bool} {fl dir : Int} (h0 : 0 ≤ fl) (h1 : fl < n) (hd : dir = 1 ∨ dir = -1) (h : 0 ≤ towardFl n up dn car fl dir) :
    towardFl n up dn car fl dir < n ∧ (towardDir n up dn car fl dir = 1 ∨ towardDir n up dn car fl dir = -1) ∧ servedB up dn car (towardFl n up dn car fl dir) (towardDir n up dn car fl dir) := by
  unfold towardFl towardDir at *
  obtain ⟨a, b, c⟩ := firstP_spec (hitP up dn car fl dir) (ways n fl dir)
  obtain ⟨a', b', c'⟩ := lastP_spec (backP up dn fl dir) (ways n fl dir)
  split
  · rename_i hlt
    have hh := c hlt
    have := place_lt (dir := dir) h0 h1 hlt
    refine ⟨by omega, hd, ?_⟩
    simp only [servedB, Int.toNat_natCast]
    simpa [hitP] using hh
  · rename_i hlt
    rw [if_neg hlt] at h
    split
    · rename_i hz; rw [if_pos hz] at h; omega
    · rename_i hz
      have hh := b' (by omega)
      have := place_lt (n := n) (dir := dir) (j := lastP (backP up dn fl dir) (ways n fl dir) - 1) h0 h1 (by omega)
      refine ⟨by omega, by omega, ?_⟩
      simp only [servedB, Int.toNat_natCast]
      exact .inr hh
theorem next_yes {n : Nat} {up dn car : Nat → Bool} {fl dir : Int} (h0 : 0 ≤ fl) (h1 : fl < n) (hd : dir = 1 ∨ dir = -1) (h : 0 ≤ nextFl n up dn car fl dir) :
    nextFl n up dn car fl dir < n ∧ (nextDir n up dn car fl dir = 1 ∨ nextDir n up dn car fl dir = -1) ∧ servedB up dn car (nextFl n up dn car fl dir) (nextDir n up dn car fl dir) := by
  unfold nextFl nextDir at *
  split
  · rename_i hlt
    rw [if_pos hlt] at h
    exact toward_yes h0 h1 (by omega) h
  · rename_i hlt
    rw [if_neg hlt] at h
    exact toward_yes h0 h1 hd h
/-- Where no stop is found there is no call ahead. -/
theorem toward_no {n : Nat} {up dn car : Nat → Bool} {fl dir : Int} (hd : dir = 1 ∨ dir = -1) (h : towardFl n up dn car fl dir < 0) :
    ∀ j, j < ways n fl dir → car (place fl dir j) = false ∧ up (place fl dir j) = false ∧ dn (place fl dir j) = false := by
  unfold towardFl at h
  obtain ⟨a, b, c⟩ := firstP_spec (hitP up dn car fl dir) (ways n fl dir)
  obtain ⟨a', b', c'⟩ := lastP_spec (backP up dn fl dir) (ways n fl dir)
  split at h
  · omega
  · rename_i hlt
    split at h
    · rename_i hz
      intro j hj
      have h1 := b j (by omega)
      have h2 := c' j (by omega) hj
      simp only [hitP, backP, callGo, Bool.or_eq_false_iff] at h1 h2
      rcases hd with rfl | rfl
      · simp at h1 h2; exact ⟨h1.1, h1.2, h2⟩
      · simp at h1 h2; exact ⟨h1.1, h2, h1.2⟩
    · omega
theorem next_no {n : Nat} {up dn car : Nat → Bool} {fl dir : Int} (h0 : 0 ≤ fl) (h1 : fl < n) (hd : dir = 1 ∨ dir = -1) (h : nextFl n up dn car fl dir < 0) :
    ∀ k, k < n → car k = false ∧ up k = false ∧ dn k = false := by
  unfold nextFl at h
  split at h
  · rename_i hlt
    have ha := toward_no hd hlt
    have hb := toward_no (dir := -dir) (by omega) h
    intro k hk
    have go : ∀ d : Int, (d = 1 ∧ fl.toNat ≤ k) ∨ (d = -1 ∧ k ≤ fl.toNat) → ∃ j, j < ways n fl d ∧ place fl d j = k := by
      rintro d (⟨rfl, hl⟩ | ⟨rfl, hl⟩)
      · exact ⟨k - fl.toNat, by simp [ways]; omega, by simp [place]; omega⟩
      · exact ⟨fl.toNat - k, by simp [ways]; omega, by simp [place]; omega⟩
    rcases Nat.le_total fl.toNat k with hl | hl
    · obtain ⟨j, hj, e⟩ := go 1 (.inl ⟨rfl, hl⟩)
      rcases hd with rfl | rfl
      · have := ha j hj; rwa [e] at this
      · have := hb j hj; simp only [Int.neg_neg] at this; rwa [e] at this
    · obtain ⟨j, hj, e⟩ := go (-1) (.inr ⟨rfl, hl⟩)
      rcases hd with rfl | rfl
      · have := hb j hj; rwa [e] at this
      · have := ha j hj; rwa [e] at this
  · omega
end Go.Proofs.Ytailpiagjemhpaa
