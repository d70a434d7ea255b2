/-
  Texts RestM, RestP in one. No claim stands here.
-/
import Derived.Test.YthkpikkjgggimaaGreatDoorTick
import Derived.Test.YthkpikkjgggimaaGreatDoorMany
import Derived.Test.YthkpikkjgggimaaGreatDoorRunM
namespace Go.Proofs.YthkpikkjgggimaaGreatDoor
set_option linter.unusedVariables false
set_option linter.unusedSimpArgs false

/-! ### the drive -/
def distT (a t : Int) : Nat := if a ≤ t then (t - a).toNat else (a - t).toNat
/-- A bound of the ticks of a drive. -/
def driveN (a s t : Int) : Nat := if canStop a s t = true then 2 * distT a t + (if s = 0 then 0 else 1) else 122 + s.toNat + (-s).toNat
theorem drv_max {a s t p : Int} (h : a ≤ t) (hp : fitB a t p = true) (hc : p = s - 1 ∨ p = s ∨ p = s + 1) : p ≤ drv a s t := by
  unfold drv
  rw [if_pos h]
  by_cases h1 : fitB a t (s + 1) = true
  · rw [if_pos h1]; omega
  · rw [if_neg h1]
    by_cases h2 : fitB a t s = true
    · rw [if_pos h2]
      rcases hc with rfl | rfl | rfl
      · omega
      · omega
      · exact absurd hp h1
    · rw [if_neg h2]
      rcases hc with rfl | rfl | rfl
      · rw [if_pos hp]; omega
      · exact absurd hp h2
      · exact absurd hp h1
theorem drv_min {a s t p : Int} (h : ¬ a ≤ t) (hp : fitB a t p = true) (hc : p = s - 1 ∨ p = s ∨ p = s + 1) : drv a s t ≤ p := by
  unfold drv
  rw [if_neg h]
  by_cases h1 : fitB a t (s - 1) = true
  · rw [if_pos h1]; omega
  · rw [if_neg h1]
    by_cases h2 : fitB a t s = true
    · rw [if_pos h2]
      rcases hc with rfl | rfl | rfl
      · exact absurd hp h1
      · omega
      · omega
    · rw [if_neg h2]
      rcases hc with rfl | rfl | rfl
      · exact absurd hp h1
      · exact absurd hp h2
      · rw [if_pos hp]; omega
theorem brake_one : brake 1 = 0 ∧ brake (-1) = 0 ∧ brake 0 = 0 := by decide
/-- A car that is driven to a target moves toward it. -/
theorem drv_moves {a s t : Int} (hc : canStop a s t = true) : (a < t → 0 < drv a s t) ∧ (t < a → drv a s t < 0) ∧ (a = t → drv a s t = 0) := by
  obtain ⟨h1, h2, h3, h4, h5⟩ := canStop_iff.1 hc
  have hs := brake_sign (inB_iff.2 h2)
  have hl := brake_less (inB_iff.2 h2)
  obtain ⟨b1, b2, b3⟩ := brake_one
  refine ⟨fun hat => ?_, fun hat => ?_, fun hat => ?_⟩
  · have hs0 : 0 ≤ s := by
      rcases (by omega : s < 0 ∨ 0 ≤ s) with h | h
      · have := h5 h; have := hs.2 (by omega); omega
      · exact h
    by_cases h : s ≤ 1
    · have hf : fitB a t 1 = true := fit_iff.2 ⟨by omega, by omega, h3, fun _ => by omega, fun h => by omega⟩
      have := drv_max (s := s) (by omega) hf (by omega)
      omega
    · have hs' := brake_sign (s := s - 1) (inB_iff.2 (by omega))
      have e := hl.1 (by omega)
      have := h4 (by omega)
      have := hs'.1 (by omega)
      have hf : fitB a t (s - 1) = true := fit_iff.2 ⟨by omega, by omega, h3, fun _ => by omega, fun h => by omega⟩
      have := drv_max (s := s) (by omega) hf (.inl rfl)
      omega
  · have hs0 : s ≤ 0 := by
      rcases (by omega : 0 < s ∨ s ≤ 0) with h | h
      · have := h4 h; have := hs.1 (by omega); omega
      · exact h
    by_cases h : -1 ≤ s
    · have hf : fitB a t (-1) = true := fit_iff.2 ⟨by omega, by omega, h3, fun h => by omega, fun _ => by omega⟩
      have := drv_min (s := s) (by omega) hf (by omega)
      omega
    · have hs' := brake_sign (s := s + 1) (inB_iff.2 (by omega))
      have e := hl.2 (by omega)
      have := h5 (by omega)
      have := hs'.2 (by omega)
      have hf : fitB a t (s + 1) = true := fit_iff.2 ⟨by omega, by omega, h3, fun h => by omega, fun _ => by omega⟩
      have := drv_min (s := s) (by omega) hf (.inr (.inr rfl))
      omega
  · have hf := fit_ahead (drv_fits hc).1
    have hx := (fit_iff.1 (drv_fits hc).1)
    rcases Int.lt_trichotomy (drv a s t) 0 with h | h | h
    · have := hf.2 h
      have := brake_sign (inB_iff.2 hx.2.1)
      omega
    · exact h
    · have := hf.1 h
      omega
theorem drive_bound {a s t : Int} (h : motionB a s = true) (ht : inB t 0 60 = true) : driveN a s t ≤ 127 := by
  obtain ⟨h1, h2⟩ := motionB_iff.1 h
  have := inB_iff.1 ht
  unfold driveN distT
  split
  · split <;> split <;> omega
  · omega
theorem drive_stands {a t : Int} (h : motionB a 0 = true) (ht : inB t 0 60 = true) : driveN a 0 t = 2 * distT a t := by
  unfold driveN
  rw [if_pos (can_zero h ht rfl)]
  simp
/-- Each tick of a drive brings it nearer to its end. -/
theorem drive_less {a s t : Int} (h : motionB a s = true) (ht : inB t 0 60 = true) (hne : ¬ (a = t ∧ s = 0)) : driveN (stepAt a s t) (stepSp a s t) t < driveN a s t := by
  obtain ⟨h1, h2⟩ := motionB_iff.1 h
  have ht' := inB_iff.1 ht
  cases hc : canStop a s t
  · have hs0 : s ≠ 0 := by
      intro h0
      rw [can_zero h ht h0] at hc; cases hc
    have hsp : (stepSp a s t).toNat + (-(stepSp a s t)).toNat < s.toNat + (-s).toNat := by
      unfold stepSp newSpeed
      rw [hc]
      simp only [Bool.false_eq_true, if_false]
      split
      · split
        · omega
        · split <;> omega
      · split
        · omega
        · split <;> omega
    have hv := step_valid h ht
    obtain ⟨g1, g2⟩ := motionB_iff.1 hv
    have e : driveN a s t = 122 + s.toNat + (-s).toNat := by simp [driveN, hc]
    rw [e]
    unfold driveN
    split
    · unfold distT
      split <;> split <;> omega
    · omega
  · have hf := (drv_fits hc).1
    have hx := fit_iff.1 hf
    have hm := drv_moves hc
    have ha := fit_ahead hf
    have ea : stepAt a s t = a + drv a s t := by
      unfold stepAt newSpeed
      rw [if_pos hc, if_neg (by omega), if_neg (by omega)]
    have es : stepSp a s t = drv a s t := by
      unfold stepSp newSpeed
      rw [if_pos hc, if_neg (by omega), if_neg (by omega)]
    have hcs : canStop (a + drv a s t) (drv a s t) t = true := hf
    have e : driveN a s t = 2 * distT a t + (if s = 0 then 0 else 1) := by simp [driveN, hc]
    rw [ea, es, e]
    unfold driveN
    rw [if_pos hcs]
    generalize drv a s t = v at *
    unfold distT
    rcases Int.lt_trichotomy a t with h | h | h
    · have := hm.1 h
      have := ha.1 this
      rw [if_pos (show a + v ≤ t by omega), if_pos (show a ≤ t by omega)]
      split <;> split <;> omega
    · have := hm.2.2 h
      have hs0 : s ≠ 0 := fun e => hne ⟨h, e⟩
      subst this
      have e1 : a + 0 ≤ t := by omega
      have e2 : a ≤ t := by omega
      simp only [e1, e2, hs0, if_true, if_false]
      omega
    · have := hm.2.1 h
      have h' := ha.2 this
      rw [if_neg (by omega : ¬ a ≤ t)]
      split <;> split <;> split <;> omega

/-! ### rest -/
/-- How many calls there are in a building. -/
def Bld.cnt (b : Bld) : Nat := cntB b.up b.n + cntB b.dn b.n + cntB b.car b.n
def Bld.doorD (b : Bld) : Nat := if b.op = true then (if b.gap < 4 then (4 - b.gap).toNat else 1) + 7 else b.gap.toNat + b.hold.toNat
/-- A bound of the ticks until a building is quiet. -/
def Bld.meas (b : Bld) : Nat := if 0 ≤ b.fl then driveN b.pos b.sp (b.f b.fl.toNat) + 12 + 200 * b.serve.cnt else b.doorD + 200 * b.cnt
theorem serve_cnt (b : Bld) : b.serve.cnt ≤ b.cnt := by
  unfold Bld.cnt Bld.serve serveUp serveDn serveCar
  simp only
  have h1 := cntB_upd_le b.car b.fl.toNat b.n
  split
  · have := cntB_upd_le b.up b.fl.toNat b.n; omega
  · have := cntB_upd_le b.dn b.fl.toNat b.n; omega
theorem serve_cnt_less {b : Bld} (hk : b.fl.toNat < b.n) (h : servedB b.up b.dn b.car b.fl b.dir) : b.serve.cnt < b.cnt := by
  unfold Bld.cnt Bld.serve serveUp serveDn serveCar
  simp only
  have h1 := cntB_upd b.car b.fl.toNat b.n
  have h2 := cntB_upd b.up b.fl.toNat b.n
  have h3 := cntB_upd b.dn b.fl.toNat b.n
  unfold servedB callGo at h
  by_cases hd : 0 < b.dir
  · rw [if_pos hd] at h ⊢
    rw [if_pos hd]
    rcases h with h | h
    · simp only [hk, h, and_self, if_true] at h1
      split at h2 <;> omega
    · simp only [hk, h, and_self, if_true] at h2
      split at h1 <;> omega
  · rw [if_neg hd] at h ⊢
    rw [if_neg hd]
    rcases h with h | h
    · simp only [hk, h, and_self, if_true] at h1
      split at h3 <;> omega
    · simp only [hk, h, and_self, if_true] at h3
      split at h1 <;> omega
theorem many_cnt {b : Bld} (h : b.Ok) : b.many = (b.cnt : Int) := by
  obtain ⟨e1, e2, e3, _⟩ := h.sizes
  unfold Bld.many Bld.cnt
  rw [many_yes h.calls, e1, e2, e3]
  simp only [Int.natCast_add]
theorem quiet_iff {b : Bld} (h : b.Ok) : b.quiet = true ↔ b.cnt = 0 ∧ b.fl = -1 ∧ b.gap = 0 ∧ b.op = false := by
  rw [quiet_yes (valid_iff.2 h), many_cnt h]
  simp only [Bool.and_eq_true, decide_eq_true_eq, Bool.not_eq_true']
  constructor
  · rintro ⟨⟨⟨h1, h2⟩, h3⟩, h4⟩; exact ⟨by omega, h2, h3, h4⟩
  · rintro ⟨h1, h2, h3, h4⟩; exact ⟨⟨⟨by omega, h2⟩, h3⟩, h4⟩
theorem meas_bound {b : Bld} (h : b.Ok) : b.meas ≤ 200 * (b.cnt + 1) := by
  unfold Bld.meas
  have hd := doorB_iff.1 h.door
  have hm := drive_bound h.motion (t := b.f b.fl.toNat)
  have hc := serve_cnt b
  split
  · rename_i hf
    have hk : b.fl.toNat < b.n := by rcases h.halt with h | h <;> omega
    have := hm (height_in h.floors hk)
    omega
  · unfold Bld.doorD
    split
    · split <;> omega
    · omega
/-- A building that is not quiet is nearer to quiet behind a tick. -/
theorem meas_less {b : Bld} (h : b.Ok) (hq : b.quiet = false) : (b.tick false).meas < b.meas := by
  have hd := doorB_iff.1 h.door
  by_cases hg : 0 < b.gap ∨ b.op = true
  · rw [tick_open hg]
    have hfl : b.fl = -1 := by
      rcases h.halt with h1 | ⟨h1, h2, h3⟩
      · exact h1.1
      · rw [h3] at hg; rcases hg with hg | hg
        · omega
        · cases hg
    have e : (b.open false).cnt = b.cnt := rfl
    unfold Bld.meas
    rw [e]
    have hf' : (b.open false).fl = b.fl := rfl
    rw [hf', hfl]
    rw [if_neg (show ¬ (0 : Int) ≤ -1 by omega), if_neg (show ¬ (0 : Int) ≤ -1 by omega)]
    have hdd : (b.open false).doorD < b.doorD := by
      unfold Bld.doorD Bld.open doorG doorH wide
      simp only
      cases ho : b.op
      · rw [ho] at hg
        have hg' : 0 < b.gap := by simpa using hg
        by_cases hh : 0 < b.hold
        · simp [hh] <;> omega
        · simp [hh, hg'] <;> omega
      · simp
        split
        · rename_i hgt
          by_cases h3 : b.gap + 1 < 4
          · simp [h3, hgt] <;> omega
          · simp [h3]
            have : 3 ≤ b.gap := by omega
            simp [this] <;> omega
        · rename_i hgt
          have : 3 ≤ b.gap := by omega
          simp [this] <;> omega
    omega
  · by_cases h1 : 0 ≤ b.fl
    · have hk : b.fl.toNat < b.n := by rcases h.halt with h | h <;> omega
      have ht := height_in h.floors hk
      by_cases h2 : b.stand = b.fl
      · rw [tick_serve hg h1 h2]
        unfold Bld.meas
        rw [if_neg (show ¬ (0 : Int) ≤ b.serve.fl by show ¬ (0 : Int) ≤ -1; omega), if_pos h1]
        have hgap : b.gap = 0 := by omega
        have : b.serve.doorD = 11 := by
          unfold Bld.doorD Bld.serve
          simp [hgap]
        omega
      · rw [tick_move hg h1 h2]
        unfold Bld.meas
        have e1 : b.move.fl = b.fl := rfl
        have e2 : b.move.serve.cnt = b.serve.cnt := rfl
        rw [e1, e2, if_pos h1, if_pos h1]
        have e3 : driveN b.move.pos b.move.sp (b.move.f b.fl.toNat) < driveN b.pos b.sp (b.f b.fl.toNat) := by
          refine drive_less h.motion ht ?_
          rintro ⟨p1, p2⟩
          apply h2
          unfold Bld.stand standF
          rw [if_pos p2, p1]
          have hfl := floorsB_iff.1 h.floors
          obtain ⟨q1, q2, q3⟩ := firstP_spec (heightP b.f (b.f b.fl.toNat)) b.n
          have hp : heightP b.f (b.f b.fl.toNat) b.fl.toNat = true := by simp [heightP]
          have hmono : ∀ i j, i < j → j < b.n → b.f i < b.f j := by
            intro i j hij hj
            induction j with
            | zero => omega
            | succ j ih =>
              have := hfl.2.2.2.1 (j + 1) (by omega) hj
              rw [Nat.add_sub_cancel] at this
              by_cases e : i = j
              · subst e; exact this
              · have := ih (by omega) (by omega); omega
          have hlt : firstP (heightP b.f (b.f b.fl.toNat)) b.n = b.fl.toNat := by
            refine firstP_eq hk hp ?_
            intro i hi
            have := hmono i _ hi hk
            simp [heightP]; omega
          unfold floorAtOf
          rw [hlt, if_pos ⟨h.floors, hk⟩]
          omega
        omega
    · rw [tick_look hg h1]
      have hfl : b.fl = -1 := by rcases h.halt with h | h <;> omega
      have hst : 0 ≤ b.stand := by rcases h.halt with ⟨_, h2⟩ | ⟨h2, _⟩ <;> omega
      have hgap : b.gap = 0 := by omega
      have hop : b.op = false := by cases hq : b.op <;> simp [hq] at hg ⊢
      have hcnt : b.cnt ≠ 0 := by
        intro h0
        have := (quiet_iff h).2 ⟨h0, hfl, hgap, hop⟩
        rw [hq] at this; cases this
      obtain ⟨_, _, _, hn1, _⟩ := h.sizes
      have hb := stand_bd (f := b.f) (n := b.n) (pos := b.pos) (sp := b.sp) hn1
      have hnext : 0 ≤ b.nextF := by
        rcases (by omega : b.nextF < 0 ∨ 0 ≤ b.nextF) with hlt | hge
        · exfalso
          have := next_no hst hb.2 h.way hlt
          apply hcnt
          unfold Bld.cnt
          rw [cntB_zero.2 (fun i hi => (this i hi).2.1), cntB_zero.2 (fun i hi => (this i hi).2.2), cntB_zero.2 (fun i hi => (this i hi).1)]
        · exact hge
      unfold Bld.look
      rw [if_pos hnext]
      obtain ⟨a1, a2, a3⟩ := next_yes (n := b.n) (up := b.up) (dn := b.dn) (car := b.car) hst hb.2 h.way hnext
      unfold Bld.meas
      simp only
      rw [if_pos hnext, if_neg h1]
      have hk : b.nextF.toNat < b.n := by have : b.nextF < b.n := a1; omega
      have hm := drive_bound h.motion (height_in h.floors hk)
      have hs := serve_cnt_less (b := { b with fl := b.nextF, dir := b.nextD }) hk a3
      have e : Bld.cnt { b with fl := b.nextF, dir := b.nextD } = b.cnt := rfl
      rw [e] at hs
      omega
end Go.Proofs.YthkpikkjgggimaaGreatDoor

namespace Go.Proofs.YthkpikkjgggimaaGreatDoor
open Go.RowKit
set_option linter.unusedVariables false
set_option linter.unusedSimpArgs false

/-- A building behind k ticks with nothing in the way. -/
def Bld.after (b : Bld) : Nat → Bld
  | 0 => b
  | k + 1 => (b.after k).tick false
theorem after_head (b : Bld) : ∀ k, b.after (k + 1) = (b.tick false).after k := by
  intro k
  induction k with
  | zero => rfl
  | succ k ih => show (b.after (k + 1)).tick false = _; rw [ih]; rfl
theorem after_ok {b : Bld} (h : b.Ok) : ∀ k, (b.after k).Ok := by
  intro k
  induction k with
  | zero => exact h
  | succ k ih => exact tick_ok ih false
theorem after_small {b : Bld} (h : b.Small) : ∀ k, (b.after k).Small := by
  intro k
  induction k with
  | zero => exact h
  | succ k ih => exact tick_small ih false
theorem rest_exists {b : Bld} (h : b.Ok) : ∃ k, k ≤ b.meas ∧ (b.after k).quiet = true := by
  generalize hm : b.meas = m
  induction m using Nat.strongRecOn generalizing b with
  | ind m ih =>
    cases hq : b.quiet
    · have hl := meas_less h hq
      obtain ⟨k, hk, hk'⟩ := ih _ (by omega) (tick_ok h false) rfl
      exact ⟨k + 1, by omega, by rw [after_head]; exact hk'⟩
    · exact ⟨0, by omega, hq⟩
/-- Behind how many ticks a building is quiet. -/
def Bld.rest (b : Bld) : Nat := firstP (fun k => (b.after k).quiet) (b.meas + 1)
theorem rest_spec {b : Bld} (h : b.Ok) : b.rest ≤ b.meas ∧ (b.after b.rest).quiet = true ∧ ∀ k, k < b.rest → (b.after k).quiet = false := by
  obtain ⟨k, hk, hq⟩ := rest_exists h
  obtain ⟨h1, h2, h3⟩ := firstP_spec (fun k => (b.after k).quiet) (b.meas + 1)
  have hlt : b.rest < b.meas + 1 := by
    unfold Bld.rest
    rcases Nat.lt_or_ge (firstP (fun k => (b.after k).quiet) (b.meas + 1)) (b.meas + 1) with hlt | hge
    · exact hlt
    · have := h2 k (by omega)
      rw [hq] at this; cases this
  exact ⟨by omega, h3 hlt, h2⟩
theorem cnt_le {b : Bld} (h : b.Ok) : b.cnt ≤ 24 := by
  obtain ⟨_, _, _, _, h8⟩ := h.sizes
  have h1 := cntB_le b.up b.n
  have h2 := cntB_le b.dn b.n
  have h3 := cntB_le b.car b.n
  unfold Bld.cnt; omega
theorem rest_bound {b : Bld} (h : b.Ok) : b.rest ≤ 200 * (b.cnt + 1) ∧ b.rest ≤ 5000 := by
  have h1 := (rest_spec h).1
  have h2 := meas_bound h
  have h3 := cnt_le h
  omega
def Bld.restTicks (b : Bld) : Int := if b.valid = true then (b.rest : Int) else -1
def Bld.rested (b : Bld) : Bld := if b.valid = true then b.after b.rest else Bld.none
theorem restTicks_no {b : Bld} (h : b.valid = false) : b.restTicks = -1 := by simp [Bld.restTicks, h]
theorem restTicks_yes {b : Bld} (h : b.valid = true) : b.restTicks = (b.rest : Int) := by simp [Bld.restTicks, h]
theorem rested_no {b : Bld} (h : b.valid = false) : b.rested = Bld.none := by simp [Bld.rested, h]
theorem rested_yes {b : Bld} (h : b.valid = true) : b.rested = b.after b.rest := by simp [Bld.rested, h]
theorem rested_small {b : Bld} (h : b.Small) : b.rested.Small := by
  unfold Bld.rested
  split
  · exact after_small h _
  · exact none_small
/-- The floors at which the door begins to be opened in the first k ticks. -/
def Bld.visL (b : Bld) : Nat → List Int
  | 0 => []
  | k + 1 => b.visL k ++ (if ((b.after (k + 1)).op && !(b.after k).op) = true then [(b.after (k + 1)).stand] else [])
theorem visL_length (b : Bld) : ∀ k, (b.visL k).length ≤ k := by
  intro k
  induction k with
  | zero => exact Nat.le_refl _
  | succ k ih =>
    simp only [Bld.visL, List.length_append]
    split <;> simp <;> omega
theorem visL_yes {b : Bld} {k : Nat} (h1 : (b.after (k + 1)).op = true) (h2 : (b.after k).op = false) : b.visL (k + 1) = b.visL k ++ [(b.after (k + 1)).stand] := by
  simp only [Bld.visL, h1, h2]; rfl
theorem visL_no1 {b : Bld} {k : Nat} (h1 : (b.after (k + 1)).op = false) : b.visL (k + 1) = b.visL k := by
  simp only [Bld.visL, h1]; simp
theorem visL_no2 {b : Bld} {k : Nat} (h2 : (b.after k).op = true) : b.visL (k + 1) = b.visL k := by
  simp only [Bld.visL, h2]; simp
def Bld.visits (b : Bld) : List Int := if b.valid = true then b.visL b.rest else []
theorem visits_no {b : Bld} (h : b.valid = false) : b.visits = [] := by simp [Bld.visits, h]
theorem visits_yes {b : Bld} (h : b.valid = true) : b.visits = b.visL b.rest := by simp [Bld.visits, h]
theorem ticked_after {b : Bld} (h : b.Ok) (k : Nat) : (b.after k).ticked false = b.after (k + 1) := ticked_yes (valid_iff.2 (after_ok h k))
theorem after_sizes {b : Bld} (h : b.Ok) (k : Nat) : (b.after k).n ≤ 8 ∧ (b.after k).nu ≤ 8 ∧ (b.after k).nd ≤ 8 ∧ (b.after k).nc ≤ 8 := by
  obtain ⟨e1, e2, e3, _, e5⟩ := (after_ok h k).sizes
  omega

theorem ReadB.off {w : World} {B : Nat} {v : Bv} {b : Bld} {p : Addr} {x : Value} (h : ReadB w B v b) (hp : Off p.block v) : ReadB (w.setCell p x) B v b := by
  refine ⟨?_, ?_, ?_, ?_, h.hn, h.un, h.dn, h.cn⟩
  · intro hn
    obtain ⟨b', off, hA, hb, hc⟩ := h.h hn
    exact ⟨b', off, hA, hb, fun i hi => (World.cell?_setCell_other w p ⟨b', off + i, Option.none⟩ x (fun e => hp.a _ hA (by rw [e]))).trans (hc i hi)⟩
  · intro hn
    obtain ⟨b', off, hA, hb, hc⟩ := h.u hn
    exact ⟨b', off, hA, hb, fun i hi => (World.cell?_setCell_other w p ⟨b', off + i, Option.none⟩ x (fun e => hp.u _ hA (by rw [e]))).trans (hc i hi)⟩
  · intro hn
    obtain ⟨b', off, hA, hb, hc⟩ := h.d hn
    exact ⟨b', off, hA, hb, fun i hi => (World.cell?_setCell_other w p ⟨b', off + i, Option.none⟩ x (fun e => hp.d _ hA (by rw [e]))).trans (hc i hi)⟩
  · intro hn
    obtain ⟨b', off, hA, hb, hc⟩ := h.c hn
    exact ⟨b', off, hA, hb, fun i hi => (World.cell?_setCell_other w p ⟨b', off + i, Option.none⟩ x (fun e => hp.c _ hA (by rw [e]))).trans (hc i hi)⟩
/-- A whole building of the call's own is stored into box g, whose building is forgotten. -/
theorem put_own {w W W' : World} {g : Nat} {v v' : Bv} {b b' : Bld} (x : Bx W g (bcells v b)) (hB : Below w.heap.size w W) (hg : w.heap.size ≤ g) (hb : Below W.heap.size W W') (o : OwnB W' W.heap.size v' b') :
    Bx (sets W' (putL g v' b')) g (bcells v' b') ∧ Below w.heap.size w (sets W' (putL g v' b')) ∧ OwnB (sets W' (putL g v' b')) W.heap.size v' b' := by
  have hl := x.lt
  unfold bcells at x
  exact ⟨(x.below hb x.lt).put v' b', sets_below _ (hB.trans (hb.mono hB.size)) (fun q hq => by rw [putL_block q hq]; exact hg), sets_own _ o (fun q hq => by rw [putL_block q hq]; exact hl)⟩
end Go.Proofs.YthkpikkjgggimaaGreatDoor
