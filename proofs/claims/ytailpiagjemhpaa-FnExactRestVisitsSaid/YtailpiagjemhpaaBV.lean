/-
  Texts RunM, RestM, RestP, Rest, Rest2, Visit in one. No claim stands here.
-/
import Derived.Test.YtailpiagjemhpaaHeld
import Derived.Test.YtailpiagjemhpaaTick
import Derived.Test.YtailpiagjemhpaaMany
namespace Go.Proofs.Ytailpiagjemhpaa
open Go.RowKit
set_option linter.unusedVariables false
set_option linter.unusedSimpArgs false

/-- A building behind a deed: its kind, the kind of a call, a floor. -/
def Bld.deed (b : Bld) (x : Int × Int × Int) : Bld := if x.1 = 0 then b.ticked false else if x.1 = 1 then b.ticked true else if x.1 = 2 then b.called x.2.1 x.2.2 else b
def Bld.runN (b : Bld) (d : Nat → Int × Int × Int) : Nat → Bld
  | 0 => b
  | k + 1 => (b.runN d k).deed (d k)
/-- What BuildRun answers. -/
def Bld.ran (b : Bld) (d : Nat → Int × Int × Int) (n : Nat) : Bld := if b.valid = true then b.runN d n else Bld.none
theorem deed_small {b : Bld} (h : b.Small) (x : Int × Int × Int) : (b.deed x).Small := by
  unfold Bld.deed
  split
  · exact ticked_small h _
  · split
    · exact ticked_small h _
    · split
      · exact called_small h _ _
      · exact h
theorem runN_small {b : Bld} (h : b.Small) (d : Nat → Int × Int × Int) : ∀ n, (b.runN d n).Small := by
  intro n
  induction n with
  | zero => exact h
  | succ n ih => exact deed_small ih _
theorem ran_small {b : Bld} (h : b.Small) (d : Nat → Int × Int × Int) (n : Nat) : (b.ran d n).Small := by
  unfold Bld.ran
  split
  · exact runN_small h d n
  · exact none_small
theorem deed_ok {b : Bld} (h : b.Ok) (x : Int × Int × Int) : (b.deed x).Ok := by
  have hv := valid_iff.2 h
  unfold Bld.deed Bld.ticked Bld.called
  rw [if_pos hv, if_pos hv, if_pos hv]
  split
  · exact tick_ok h _
  · split
    · exact tick_ok h _
    · split
      · exact Bld.ask_valid h _ _
      · exact h
theorem runN_ok {b : Bld} (h : b.Ok) (d : Nat → Int × Int × Int) : ∀ n, (b.runN d n).Ok := by
  intro n
  induction n with
  | zero => exact h
  | succ n ih => exact deed_ok ih _

/-- A slice of deeds reads as d 0 .. d (n - 1), and lies below block B. -/
def Deeds (w : World) (B : Nat) (A : Option Addr) (n : Nat) (d : Nat → Int × Int × Int) : Prop :=
  0 < n → ∃ b off, A = some ⟨b, off, none⟩ ∧ b < B ∧ ∀ i, i < n → w.cell? ⟨b, off + i * 3, none⟩ = some (.int .i64 (d i).1) ∧ w.cell? ⟨b, off + i * 3 + 1, none⟩ = some (.int .i64 (d i).2.1) ∧ w.cell? ⟨b, off + i * 3 + 2, none⟩ = some (.int .i64 (d i).2.2)
theorem Deeds.below {w w' : World} {B : Nat} {A : Option Addr} {n : Nat} {d : Nat → Int × Int × Int} (h : Deeds w B A n d) (hb : Below B w w') : Deeds w' B A n d := by
  intro hn
  obtain ⟨b, off, hA, hlt, hc⟩ := h hn
  exact ⟨b, off, hA, hlt, fun i hi => ⟨(hb.cell hlt).trans (hc i hi).1, (hb.cell hlt).trans (hc i hi).2.1, (hb.cell hlt).trans (hc i hi).2.2⟩⟩
theorem Deeds.more {w : World} {B B' : Nat} {A : Option Addr} {n : Nat} {d : Nat → Int × Int × Int} (h : Deeds w B A n d) (hB : B ≤ B') : Deeds w B' A n d := by
  intro hn
  obtain ⟨b, off, hA, hlt, hc⟩ := h hn
  exact ⟨b, off, hA, Nat.lt_of_lt_of_le hlt hB, hc⟩
/-- A whole building of the call's own is stored into box g, whose building is forgotten. -/
theorem put_building {w W W' : World} {g g1 base : Nat} {v v' : Bv} {b b' : Bld} {R : Array Value} (x : Bx W g (bcells v b)) (y : Bx W g1 R) (hne : g1 ≠ g) (hB : Below w.heap.size w W) (hg : w.heap.size ≤ g) (hb : Below W.heap.size W W') (o : OwnB W' W.heap.size v' b') (hbase : base ≤ W.heap.size) :
    Bx (sets W' (putL g v' b')) g (bcells v' b') ∧ Bx (sets W' (putL g v' b')) g1 R ∧ Below w.heap.size w (sets W' (putL g v' b')) ∧ OwnB (sets W' (putL g v' b')) base v' b' ∧ Off g v' := by
  have hl := x.lt
  unfold bcells at x
  exact ⟨(x.below hb x.lt).put v' b', sets_bx _ (y.below hb y.lt) (fun q hq => by rw [putL_block q hq]; exact Ne.symm hne), sets_below _ (hB.trans (hb.mono hB.size)) (fun q hq => by rw [putL_block q hq]; exact hg),
    (sets_own _ o (fun q hq => by rw [putL_block q hq]; exact hl)).mono hbase, own_off o (.inl hl)⟩
theorem deed_0 {b : Bld} {x : Int × Int × Int} (h : x.1 = 0) : b.deed x = b.ticked false := by simp [Bld.deed, h]
theorem deed_1 {b : Bld} {x : Int × Int × Int} (h : x.1 = 1) : b.deed x = b.ticked true := by simp [Bld.deed, h]
theorem deed_2 {b : Bld} {x : Int × Int × Int} (h : x.1 = 2) : b.deed x = b.called x.2.1 x.2.2 := by simp [Bld.deed, h]
theorem deed_3 {b : Bld} {x : Int × Int × Int} (h0 : x.1 ≠ 0) (h1 : x.1 ≠ 1) (h2 : x.1 ≠ 2) : b.deed x = b := by simp [Bld.deed, h0, h1, h2]
def RunPost (b : Bld) (d : Nat → Int × Int × Int) (n : Nat) (w : World) (e : Ending) (w' : World) : Prop :=
  ∃ v', e = .returned (bval v' (b.ran d n)) ∧ OwnB w' w.heap.size v' (b.ran d n) ∧ Below w.heap.size w w'
theorem ran_no {b : Bld} {d : Nat → Int × Int × Int} {n : Nat} (h : b.valid = false) : b.ran d n = Bld.none := by simp [Bld.ran, h]
theorem ran_yes {b : Bld} {d : Nat → Int × Int × Int} {n : Nat} (h : b.valid = true) : b.ran d n = b.runN d n := by simp [Bld.ran, h]
end Go.Proofs.Ytailpiagjemhpaa

namespace Go.Proofs.Ytailpiagjemhpaa
set_option linter.unusedVariables false
set_option linter.unusedSimpArgs false

/-! ### the drive -/
def distT (a t : Int) : Nat := if a ≤ t then (t - a).toNat else (a - t).toNat
/-- A bound of the ticks of a drive. -/
def driveN (a s t : Int) : Nat := if canStop a s t = true then 2 * distT a t + (if s = 0 then 0 else 1) else 122 + s.toNat + (-s).toNat
theorem drv_max {a s t p : Int} (h : a ≤ t) (hp : fitB a t p = true) (hc : p = s - 1 ∨ p = s ∨ p = s + 1) : p ≤ drv a s t := by
  unfold drv
  rw [if_pos h]
  by_cases h1 : fitB a t (s + 1) = true
  · rw [if_pos h1]; omega
  · rw [if_neg h1]
    by_cases h2 : fitB a t s = true
    · rw [if_pos h2]
      rcases hc with rfl | rfl | rfl
      · omega
      · omega
      · exact absurd hp h1
    · rw [if_neg h2]
      rcases hc with rfl | rfl | rfl
      · rw [if_pos hp]; omega
      · exact absurd hp h2
      · exact absurd hp h1
theorem drv_min {a s t p : Int} (h : ¬ a ≤ t) (hp : fitB a t p = true) (hc : p = s - 1 ∨ p = s ∨ p = s + 1) : drv a s t ≤ p := by
  unfold drv
  rw [if_neg h]
  by_cases h1 : fitB a t (s - 1) = true
  · rw [if_pos h1]; omega
  · rw [if_neg h1]
    by_cases h2 : fitB a t s = true
    · rw [if_pos h2]
      rcases hc with rfl | rfl | rfl
      · exact absurd hp h1
      · omega
      · omega
    · rw [if_neg h2]
      rcases hc with rfl | rfl | rfl
      · exact absurd hp h1
      · exact absurd hp h2
      · rw [if_pos hp]; omega
theorem brake_one : brake 1 = 0 ∧ brake (-1) = 0 ∧ brake 0 = 0 := by decide
/-- A car that is driven to a target moves toward it. -/
theorem drv_moves {a s t : Int} (hc : canStop a s t = true) : (a < t → 0 < drv a s t) ∧ (t < a → drv a s t < 0) ∧ (a = t → drv a s t = 0) := by
  obtain ⟨h1, h2, h3, h4, h5⟩ := canStop_iff.1 hc
  have hs := brake_sign (inB_iff.2 h2)
  have hl := brake_less (inB_iff.2 h2)
  obtain ⟨b1, b2, b3⟩ := brake_one
  refine ⟨fun hat => ?_, fun hat => ?_, fun hat => ?_⟩
  · have hs0 : 0 ≤ s := by
      rcases (by omega : s < 0 ∨ 0 ≤ s) with h | h
      · have := h5 h; have := hs.2 (by omega); omega
      · exact h
    by_cases h : s ≤ 1
    · have hf : fitB a t 1 = true := fit_iff.2 ⟨by omega, by omega, h3, fun _ => by omega, fun h => by omega⟩
      have := drv_max (s := s) (by omega) hf (by omega)
      omega
    · have hs' := brake_sign (s := s - 1) (inB_iff.2 (by omega))
      have e := hl.1 (by omega)
      have := h4 (by omega)
      have := hs'.1 (by omega)
      have hf : fitB a t (s - 1) = true := fit_iff.2 ⟨by omega, by omega, h3, fun _ => by omega, fun h => by omega⟩
      have := drv_max (s := s) (by omega) hf (.inl rfl)
      omega
  · have hs0 : s ≤ 0 := by
      rcases (by omega : 0 < s ∨ s ≤ 0) with h | h
      · have := h4 h; have := hs.1 (by omega); omega
      · exact h
    by_cases h : -1 ≤ s
    · have hf : fitB a t (-1) = true := fit_iff.2 ⟨by omega, by omega, h3, fun h => by omega, fun _ => by omega⟩
      have := drv_min (s := s) (by omega) hf (by omega)
      omega
    · have hs' := brake_sign (s := s + 1) (inB_iff.2 (by omega))
      have e := hl.2 (by omega)
      have := h5 (by omega)
      have := hs'.2 (by omega)
      have hf : fitB a t (s + 1) = true := fit_iff.2 ⟨by omega, by omega, h3, fun h => by omega, fun _ => by omega⟩
      have := drv_min (s := s) (by omega) hf (.inr (.inr rfl))
      omega
  · have hf := fit_ahead (drv_fits hc).1
    have hx := (fit_iff.1 (drv_fits hc).1)
    rcases Int.lt_trichotomy (drv a s t) 0 with h | h | h
    · have := hf.2 h
      have := brake_sign (inB_iff.2 hx.2.1)
      omega
    · exact h
    · have := hf.1 h
      omega
theorem drive_bound {a s t : Int} (h : motionB a s = true) (ht : inB t 0 60 = true) : driveN a s t ≤ 127 := by
  obtain ⟨h1, h2⟩ := motionB_iff.1 h
  have := inB_iff.1 ht
  unfold driveN distT
  split
  · split <;> split <;> omega
  · omega
theorem drive_stands {a t : Int} (h : motionB a 0 = true) (ht : inB t 0 60 = true) : driveN a 0 t = 2 * distT a t := by
  unfold driveN
  rw [if_pos (can_zero h ht rfl)]
  simp
/-- Each tick of a drive brings it nearer to its end. -/
theorem drive_less {a s t : Int} (h : motionB a s = true) (ht : inB t 0 60 = true) (hne : ¬ (a = t ∧ s = 0)) : driveN (stepAt a s t) (stepSp a s t) t < driveN a s t := by
  obtain ⟨h1, h2⟩ := motionB_iff.1 h
  have ht' := inB_iff.1 ht
  cases hc : canStop a s t
  · have hs0 : s ≠ 0 := by
      intro h0
      rw [can_zero h ht h0] at hc; cases hc
    have hsp : (stepSp a s t).toNat + (-(stepSp a s t)).toNat < s.toNat + (-s).toNat := by
      unfold stepSp newSpeed
      rw [hc]
      simp only [Bool.false_eq_true, if_false]
      split
      · split
        · omega
        · split <;> omega
      · split
        · omega
        · split <;> omega
    have hv := step_valid h ht
    obtain ⟨g1, g2⟩ := motionB_iff.1 hv
    have e : driveN a s t = 122 + s.toNat + (-s).toNat := by simp [driveN, hc]
    rw [e]
    unfold driveN
    split
    · unfold distT
      split <;> split <;> omega
    · omega
  · have hf := (drv_fits hc).1
    have hx := fit_iff.1 hf
    have hm := drv_moves hc
    have ha := fit_ahead hf
    have ea : stepAt a s t = a + drv a s t := by
      unfold stepAt newSpeed
      rw [if_pos hc, if_neg (by omega), if_neg (by omega)]
    have es : stepSp a s t = drv a s t := by
      unfold stepSp newSpeed
      rw [if_pos hc, if_neg (by omega), if_neg (by omega)]
    have hcs : canStop (a + drv a s t) (drv a s t) t = true := hf
    have e : driveN a s t = 2 * distT a t + (if s = 0 then 0 else 1) := by simp [driveN, hc]
    rw [ea, es, e]
    unfold driveN
    rw [if_pos hcs]
    generalize drv a s t = v at *
    unfold distT
    rcases Int.lt_trichotomy a t with h | h | h
    · have := hm.1 h
      have := ha.1 this
      rw [if_pos (show a + v ≤ t by omega), if_pos (show a ≤ t by omega)]
      split <;> split <;> omega
    · have := hm.2.2 h
      have hs0 : s ≠ 0 := fun e => hne ⟨h, e⟩
      subst this
      have e1 : a + 0 ≤ t := by omega
      have e2 : a ≤ t := by omega
      simp only [e1, e2, hs0, if_true, if_false]
      omega
    · have := hm.2.1 h
      have h' := ha.2 this
      rw [if_neg (by omega : ¬ a ≤ t)]
      split <;> split <;> split <;> omega

/-! ### rest -/
/-- How many calls there are in a building. -/
def Bld.cnt (b : Bld) : Nat := cntB b.up b.n + cntB b.dn b.n + cntB b.car b.n
def Bld.doorD (b : Bld) : Nat := if b.op = true then (if b.gap < 4 then (4 - b.gap).toNat else 1) + 7 else b.gap.toNat + b.hold.toNat
/-- A bound of the ticks until a building is quiet. -/
def Bld.meas (b : Bld) : Nat := if 0 ≤ b.fl then driveN b.pos b.sp (b.f b.fl.toNat) + 12 + 200 * b.serve.cnt else b.doorD + 200 * b.cnt
theorem serve_cnt (b : Bld) : b.serve.cnt ≤ b.cnt := by
  unfold Bld.cnt Bld.serve serveUp serveDn serveCar
  simp only
  have h1 := cntB_upd_le b.car b.fl.toNat b.n
  split
  · have := cntB_upd_le b.up b.fl.toNat b.n; omega
  · have := cntB_upd_le b.dn b.fl.toNat b.n; omega
theorem serve_cnt_less {b : Bld} (hk : b.fl.toNat < b.n) (h : servedB b.up b.dn b.car b.fl b.dir) : b.serve.cnt < b.cnt := by
  unfold Bld.cnt Bld.serve serveUp serveDn serveCar
  simp only
  have h1 := cntB_upd b.car b.fl.toNat b.n
  have h2 := cntB_upd b.up b.fl.toNat b.n
  have h3 := cntB_upd b.dn b.fl.toNat b.n
  unfold servedB callGo at h
  by_cases hd : 0 < b.dir
  · rw [if_pos hd] at h ⊢
    rw [if_pos hd]
    rcases h with h | h
    · simp only [hk, h, and_self, if_true] at h1
      split at h2 <;> omega
    · simp only [hk, h, and_self, if_true] at h2
      split at h1 <;> omega
  · rw [if_neg hd] at h ⊢
    rw [if_neg hd]
    rcases h with h | h
    · simp only [hk, h, and_self, if_true] at h1
      split at h3 <;> omega
    · simp only [hk, h, and_self, if_true] at h3
      split at h1 <;> omega
theorem many_cnt {b : Bld} (h : b.Ok) : b.many = (b.cnt : Int) := by
  obtain ⟨e1, e2, e3, _⟩ := h.sizes
  unfold Bld.many Bld.cnt
  rw [many_yes h.calls, e1, e2, e3]
  simp only [Int.natCast_add]
theorem quiet_iff {b : Bld} (h : b.Ok) : b.quiet = true ↔ b.cnt = 0 ∧ b.fl = -1 ∧ b.gap = 0 ∧ b.op = false := by
  rw [quiet_yes (valid_iff.2 h), many_cnt h]
  simp only [Bool.and_eq_true, decide_eq_true_eq, Bool.not_eq_true']
  constructor
  · rintro ⟨⟨⟨h1, h2⟩, h3⟩, h4⟩; exact ⟨by omega, h2, h3, h4⟩
  · rintro ⟨h1, h2, h3, h4⟩; exact ⟨⟨⟨by omega, h2⟩, h3⟩, h4⟩
theorem meas_bound {b : Bld} (h : b.Ok) : b.meas ≤ 200 * (b.cnt + 1) := by
  unfold Bld.meas
  have hd := doorB_iff.1 h.door
  have hm := drive_bound h.motion (t := b.f b.fl.toNat)
  have hc := serve_cnt b
  split
  · rename_i hf
    have hk : b.fl.toNat < b.n := by rcases h.halt with h | h <;> omega
    have := hm (height_in h.floors hk)
    omega
  · unfold Bld.doorD
    split
    · split <;> omega
    · omega
/-- A building that is not quiet is nearer to quiet behind a tick. -/
theorem meas_less {b : Bld} (h : b.Ok) (hq : b.quiet = false) : (b.tick false).meas < b.meas := by
  have hd := doorB_iff.1 h.door
  by_cases hg : 0 < b.gap ∨ b.op = true
  · rw [tick_open hg]
    have hfl : b.fl = -1 := by
      rcases h.halt with h1 | ⟨h1, h2, h3⟩
      · exact h1.1
      · rw [h3] at hg; rcases hg with hg | hg
        · omega
        · cases hg
    have e : (b.open false).cnt = b.cnt := rfl
    unfold Bld.meas
    rw [e]
    have hf' : (b.open false).fl = b.fl := rfl
    rw [hf', hfl]
    rw [if_neg (show ¬ (0 : Int) ≤ -1 by omega), if_neg (show ¬ (0 : Int) ≤ -1 by omega)]
    have hdd : (b.open false).doorD < b.doorD := by
      unfold Bld.doorD Bld.open doorG doorH wide
      simp only
      cases ho : b.op
      · rw [ho] at hg
        have hg' : 0 < b.gap := by simpa using hg
        by_cases hh : 0 < b.hold
        · simp [hh] <;> omega
        · simp [hh, hg'] <;> omega
      · simp
        split
        · rename_i hgt
          by_cases h3 : b.gap + 1 < 4
          · simp [h3, hgt] <;> omega
          · simp [h3]
            have : 3 ≤ b.gap := by omega
            simp [this] <;> omega
        · rename_i hgt
          have : 3 ≤ b.gap := by omega
          simp [this] <;> omega
    omega
  · by_cases h1 : 0 ≤ b.fl
    · have hk : b.fl.toNat < b.n := by rcases h.halt with h | h <;> omega
      have ht := height_in h.floors hk
      by_cases h2 : b.stand = b.fl
      · rw [tick_serve hg h1 h2]
        unfold Bld.meas
        rw [if_neg (show ¬ (0 : Int) ≤ b.serve.fl by show ¬ (0 : Int) ≤ -1; omega), if_pos h1]
        have hgap : b.gap = 0 := by omega
        have : b.serve.doorD = 11 := by
          unfold Bld.doorD Bld.serve
          simp [hgap]
        omega
      · rw [tick_move hg h1 h2]
        unfold Bld.meas
        have e1 : b.move.fl = b.fl := rfl
        have e2 : b.move.serve.cnt = b.serve.cnt := rfl
        rw [e1, e2, if_pos h1, if_pos h1]
        have e3 : driveN b.move.pos b.move.sp (b.move.f b.fl.toNat) < driveN b.pos b.sp (b.f b.fl.toNat) := by
          refine drive_less h.motion ht ?_
          rintro ⟨p1, p2⟩
          apply h2
          unfold Bld.stand standF
          rw [if_pos p2, p1]
          have hfl := floorsB_iff.1 h.floors
          obtain ⟨q1, q2, q3⟩ := firstP_spec (heightP b.f (b.f b.fl.toNat)) b.n
          have hp : heightP b.f (b.f b.fl.toNat) b.fl.toNat = true := by simp [heightP]
          have hmono : ∀ i j, i < j → j < b.n → b.f i < b.f j := by
            intro i j hij hj
            induction j with
            | zero => omega
            | succ j ih =>
              have := hfl.2.2.2.1 (j + 1) (by omega) hj
              rw [Nat.add_sub_cancel] at this
              by_cases e : i = j
              · subst e; exact this
              · have := ih (by omega) (by omega); omega
          have hlt : firstP (heightP b.f (b.f b.fl.toNat)) b.n = b.fl.toNat := by
            refine firstP_eq hk hp ?_
            intro i hi
            have := hmono i _ hi hk
            simp [heightP]; omega
          unfold floorAtOf
          rw [hlt, if_pos ⟨h.floors, hk⟩]
          omega
        omega
    · rw [tick_look hg h1]
      have hfl : b.fl = -1 := by rcases h.halt with h | h <;> omega
      have hst : 0 ≤ b.stand := by rcases h.halt with ⟨_, h2⟩ | ⟨h2, _⟩ <;> omega
      have hgap : b.gap = 0 := by omega
      have hop : b.op = false := by cases hq : b.op <;> simp [hq] at hg ⊢
      have hcnt : b.cnt ≠ 0 := by
        intro h0
        have := (quiet_iff h).2 ⟨h0, hfl, hgap, hop⟩
        rw [hq] at this; cases this
      obtain ⟨_, _, _, hn1, _⟩ := h.sizes
      have hb := stand_bd (f := b.f) (n := b.n) (pos := b.pos) (sp := b.sp) hn1
      have hnext : 0 ≤ b.nextF := by
        rcases (by omega : b.nextF < 0 ∨ 0 ≤ b.nextF) with hlt | hge
        · exfalso
          have := next_no hst hb.2 h.way hlt
          apply hcnt
          unfold Bld.cnt
          rw [cntB_zero.2 (fun i hi => (this i hi).2.1), cntB_zero.2 (fun i hi => (this i hi).2.2), cntB_zero.2 (fun i hi => (this i hi).1)]
        · exact hge
      unfold Bld.look
      rw [if_pos hnext]
      obtain ⟨a1, a2, a3⟩ := next_yes (n := b.n) (up := b.up) (dn := b.dn) (car := b.car) hst hb.2 h.way hnext
      unfold Bld.meas
      simp only
      rw [if_pos hnext, if_neg h1]
      have hk : b.nextF.toNat < b.n := by have : b.nextF < b.n := a1; omega
      have hm := drive_bound h.motion (height_in h.floors hk)
      have hs := serve_cnt_less (b := { b with fl := b.nextF, dir := b.nextD }) hk a3
      have e : Bld.cnt { b with fl := b.nextF, dir := b.nextD } = b.cnt := rfl
      rw [e] at hs
      omega
end Go.Proofs.Ytailpiagjemhpaa

namespace Go.Proofs.Ytailpiagjemhpaa
open Go.RowKit
set_option linter.unusedVariables false
set_option linter.unusedSimpArgs false

/-- A building behind k ticks with nothing in the way. -/
def Bld.after (b : Bld) : Nat → Bld
  | 0 => b
  | k + 1 => (b.after k).tick false
theorem after_head (b : Bld) : ∀ k, b.after (k + 1) = (b.tick false).after k := by
  intro k
  induction k with
  | zero => rfl
  | succ k ih => show (b.after (k + 1)).tick false = _; rw [ih]; rfl
theorem after_ok {b : Bld} (h : b.Ok) : ∀ k, (b.after k).Ok := by
  intro k
  induction k with
  | zero => exact h
  | succ k ih => exact tick_ok ih false
theorem after_small {b : Bld} (h : b.Small) : ∀ k, (b.after k).Small := by
  intro k
  induction k with
  | zero => exact h
  | succ k ih => exact tick_small ih false
theorem rest_exists {b : Bld} (h : b.Ok) : ∃ k, k ≤ b.meas ∧ (b.after k).quiet = true := by
  generalize hm : b.meas = m
  induction m using Nat.strongRecOn generalizing b with
  | ind m ih =>
    cases hq : b.quiet
    · have hl := meas_less h hq
      obtain ⟨k, hk, hk'⟩ := ih _ (by omega) (tick_ok h false) rfl
      exact ⟨k + 1, by omega, by rw [after_head]; exact hk'⟩
    · exact ⟨0, by omega, hq⟩
/-- Behind how many ticks a building is quiet. -/
def Bld.rest (b : Bld) : Nat := firstP (fun k => (b.after k).quiet) (b.meas + 1)
theorem rest_spec {b : Bld} (h : b.Ok) : b.rest ≤ b.meas ∧ (b.after b.rest).quiet = true ∧ ∀ k, k < b.rest → (b.after k).quiet = false := by
  obtain ⟨k, hk, hq⟩ := rest_exists h
  obtain ⟨h1, h2, h3⟩ := firstP_spec (fun k => (b.after k).quiet) (b.meas + 1)
  have hlt : b.rest < b.meas + 1 := by
    unfold Bld.rest
    rcases Nat.lt_or_ge (firstP (fun k => (b.after k).quiet) (b.meas + 1)) (b.meas + 1) with hlt | hge
    · exact hlt
    · have := h2 k (by omega)
      rw [hq] at this; cases this
  exact ⟨by omega, h3 hlt, h2⟩
theorem cnt_le {b : Bld} (h : b.Ok) : b.cnt ≤ 24 := by
  obtain ⟨_, _, _, _, h8⟩ := h.sizes
  have h1 := cntB_le b.up b.n
  have h2 := cntB_le b.dn b.n
  have h3 := cntB_le b.car b.n
  unfold Bld.cnt; omega
theorem rest_bound {b : Bld} (h : b.Ok) : b.rest ≤ 200 * (b.cnt + 1) ∧ b.rest ≤ 5000 := by
  have h1 := (rest_spec h).1
  have h2 := meas_bound h
  have h3 := cnt_le h
  omega
def Bld.restTicks (b : Bld) : Int := if b.valid = true then (b.rest : Int) else -1
def Bld.rested (b : Bld) : Bld := if b.valid = true then b.after b.rest else Bld.none
theorem restTicks_no {b : Bld} (h : b.valid = false) : b.restTicks = -1 := by simp [Bld.restTicks, h]
theorem restTicks_yes {b : Bld} (h : b.valid = true) : b.restTicks = (b.rest : Int) := by simp [Bld.restTicks, h]
theorem rested_no {b : Bld} (h : b.valid = false) : b.rested = Bld.none := by simp [Bld.rested, h]
theorem rested_yes {b : Bld} (h : b.valid = true) : b.rested = b.after b.rest := by simp [Bld.rested, h]
theorem rested_small {b : Bld} (h : b.Small) : b.rested.Small := by
  unfold Bld.rested
  split
  · exact after_small h _
  · exact none_small
/-- The floors at which the door begins to be opened in the first k ticks. -/
def Bld.visL (b : Bld) : Nat → List Int
  | 0 => []
  | k + 1 => b.visL k ++ (if ((b.after (k + 1)).op && !(b.after k).op) = true then [(b.after (k + 1)).stand] else [])
theorem visL_length (b : Bld) : ∀ k, (b.visL k).length ≤ k := by
  intro k
  induction k with
  | zero => exact Nat.le_refl _
  | succ k ih =>
    simp only [Bld.visL, List.length_append]
    split <;> simp <;> omega
theorem visL_yes {b : Bld} {k : Nat} (h1 : (b.after (k + 1)).op = true) (h2 : (b.after k).op = false) : b.visL (k + 1) = b.visL k ++ [(b.after (k + 1)).stand] := by
  simp only [Bld.visL, h1, h2]; rfl
theorem visL_no1 {b : Bld} {k : Nat} (h1 : (b.after (k + 1)).op = false) : b.visL (k + 1) = b.visL k := by
  simp only [Bld.visL, h1]; simp
theorem visL_no2 {b : Bld} {k : Nat} (h2 : (b.after k).op = true) : b.visL (k + 1) = b.visL k := by
  simp only [Bld.visL, h2]; simp
def Bld.visits (b : Bld) : List Int := if b.valid = true then b.visL b.rest else []
theorem visits_no {b : Bld} (h : b.valid = false) : b.visits = [] := by simp [Bld.visits, h]
theorem visits_yes {b : Bld} (h : b.valid = true) : b.visits = b.visL b.rest := by simp [Bld.visits, h]
theorem ticked_after {b : Bld} (h : b.Ok) (k : Nat) : (b.after k).ticked false = b.after (k + 1) := ticked_yes (valid_iff.2 (after_ok h k))
theorem after_sizes {b : Bld} (h : b.Ok) (k : Nat) : (b.after k).n ≤ 8 ∧ (b.after k).nu ≤ 8 ∧ (b.after k).nd ≤ 8 ∧ (b.after k).nc ≤ 8 := by
  obtain ⟨e1, e2, e3, _, e5⟩ := (after_ok h k).sizes
  omega

theorem ReadB.off {w : World} {B : Nat} {v : Bv} {b : Bld} {p : Addr} {x : Value} (h : ReadB w B v b) (hp : Off p.block v) : ReadB (w.setCell p x) B v b := by
  refine ⟨?_, ?_, ?_, ?_, h.hn, h.un, h.dn, h.cn⟩
  · intro hn
    obtain ⟨b', off, hA, hb, hc⟩ := h.h hn
    exact ⟨b', off, hA, hb, fun i hi => (World.cell?_setCell_other w p ⟨b', off + i, Option.none⟩ x (fun e => hp.a _ hA (by rw [e]))).trans (hc i hi)⟩
  · intro hn
    obtain ⟨b', off, hA, hb, hc⟩ := h.u hn
    exact ⟨b', off, hA, hb, fun i hi => (World.cell?_setCell_other w p ⟨b', off + i, Option.none⟩ x (fun e => hp.u _ hA (by rw [e]))).trans (hc i hi)⟩
  · intro hn
    obtain ⟨b', off, hA, hb, hc⟩ := h.d hn
    exact ⟨b', off, hA, hb, fun i hi => (World.cell?_setCell_other w p ⟨b', off + i, Option.none⟩ x (fun e => hp.d _ hA (by rw [e]))).trans (hc i hi)⟩
  · intro hn
    obtain ⟨b', off, hA, hb, hc⟩ := h.c hn
    exact ⟨b', off, hA, hb, fun i hi => (World.cell?_setCell_other w p ⟨b', off + i, Option.none⟩ x (fun e => hp.c _ hA (by rw [e]))).trans (hc i hi)⟩
/-- A whole building of the call's own is stored into box g, whose building is forgotten. -/
theorem put_own {w W W' : World} {g : Nat} {v v' : Bv} {b b' : Bld} (x : Bx W g (bcells v b)) (hB : Below w.heap.size w W) (hg : w.heap.size ≤ g) (hb : Below W.heap.size W W') (o : OwnB W' W.heap.size v' b') :
    Bx (sets W' (putL g v' b')) g (bcells v' b') ∧ Below w.heap.size w (sets W' (putL g v' b')) ∧ OwnB (sets W' (putL g v' b')) W.heap.size v' b' := by
  have hl := x.lt
  unfold bcells at x
  exact ⟨(x.below hb x.lt).put v' b', sets_below _ (hB.trans (hb.mono hB.size)) (fun q hq => by rw [putL_block q hq]; exact hg), sets_own _ o (fun q hq => by rw [putL_block q hq]; exact hl)⟩
end Go.Proofs.Ytailpiagjemhpaa

namespace Go.Proofs.Ytailpiagjemhpaa
open Go.RowKit
set_option linter.unusedVariables false
set_option linter.unusedSimpArgs false

set_option maxHeartbeats 6400000 in
theorem impl_RestTicks {w : World} {B : Nat} {v : Bv} {b : Bld} (hn : b.Small) (hB : B ≤ w.heap.size) (hr : ReadB w B v b) :
    Calls Try.prog 34 #[bval v b] w fun e w' => e = .returned (.int .i64 b.restTicks) ∧ Below w.heap.size w w' := by
  have HX0 := Lib.hid (Bx.new w (bcells v b) 36)
  have HB0 := Lib.hid ((Below.refl w.heap.size w).alloc (Nat.le_refl _) (.cells (bcells v b) 36))
  have HR0 := Lib.hid (hr.alloc hB (.cells (bcells v b) 36))
  have HSm := Lib.hid hn
  clear hr hn
  unfold bval bcells at *
  go_enter Try.func34, Try.ntmps34
  go_wp2_with fail
  refine (impl_BuildValid (v := v) (b := b) HSm.out (Nat.le_trans hB HB0.out.size) HR0.out).mono ?_
  rintro e w1 ⟨rfl, hb1⟩
  have HX1 := Lib.hid (HX0.out.below hb1 HX0.out.lt)
  have HB1 := Lib.hid (HB0.out.trans (hb1.mono HB0.out.size))
  have HR1 := Lib.hid (HR0.out.below (hb1.mono (Nat.le_trans hB HB0.out.size)))
  clear hb1 HX0 HB0 HR0
  cases hv : b.valid
  · have HE := Lib.hid (restTicks_no hv)
    go_wp2
    go_ret
    exact ⟨ret_int HE.out.symm, HB1.out⟩
  · have HE := Lib.hid (restTicks_yes hv)
    have hok := valid_iff.1 hv
    have HOK := Lib.hid hok
    have HRS := Lib.hid (rest_spec hok)
    have hrb := (rest_bound hok).2
    clear hv hok
    generalize b.rest = R at *
    have HRB := Lib.hid (HR1.out.more (Nat.le_trans hB HB1.out.size))
    go_wp2
    go_loopw [3] (fun s3 wr => ∃ (k : Nat) (v' : Bv) (b' : Bld), s3 = .int .i64 k ∧ k ≤ R ∧ Hid (b' = b.after k) ∧ Hid (Bx wr w.heap.size (bcells v' b')) ∧ Hid (ReadB wr wr.heap.size v' b') ∧ Hid (Below w.heap.size w wr)) (fun s3 _ => R - (intOf s3).toNat)
    case atStart => exact ⟨0, v, b, rfl, by omega, Lib.hid rfl, HX1, HRB, HB1⟩
    case round =>
      obtain ⟨k, v', b', rfl, hk, HK, HX, HR, HB⟩ := hrel
      have HS : Hid b'.Small := Lib.hid (by rw [HK.out]; exact after_small HSm.out k)
      have HT : Hid (b'.ticked false = b.after (k + 1)) := Lib.hid (by rw [HK.out]; exact ticked_after HOK.out k)
      unfold bcells at HX
      have c0 := HX.out.cells
      by_cases hlt : k < R
      · have HQ : Hid (b'.quiet = false) := Lib.hid (by rw [HK.out]; exact HRS.out.2.2 k hlt)
        go_wp2_with fail
        refine (impl_BuildQuiet (v := v') (b := b') HS.out (Nat.le_refl _) HR.out).mono ?_
        rintro e w5 ⟨rfl, hb5⟩
        rw [HQ.out]
        have HX5 := Lib.hid (HX.out.below hb5 HX.out.lt)
        have HB5 := Lib.hid (HB.out.trans (hb5.mono HB.out.size))
        have HR5 := Lib.hid ((HR.out.below hb5).more hb5.size)
        clear hb5 HX HB HR c0
        have c0 := HX5.out.cells
        have z0 := HX5.out.free
        go_wp2_with fail
        refine (impl_BuildTick (v := v') (b := b') false HS.out (Nat.le_refl _) HR5.out).mono ?_
        unfold TickPost
        rw [HT.out]
        rintro e w6 ⟨v6, rfl, ho6, hb6⟩
        have HP := Lib.hid (put_own HX5.out HB5.out (Nat.le_refl _) hb6 ho6)
        have c6 := (HX5.out.below hb6 HX5.out.lt).cells
        have z6 := (HX5.out.below hb6 HX5.out.lt).free
        clear hb6 ho6 c0 z0
        generalize hb6 : b.after (k + 1) = b6 at *
        have HB6 := Lib.hid hb6
        clear hb6
        simp only [bval, bcells]
        go_wp2
        go_roundw
        case rel => exact ⟨k + 1, v6, b6, by go_num, by omega, Lib.hid HB6.out.symm, Lib.hid HP.out.1, Lib.hid HP.out.2.2.read, Lib.hid HP.out.2.1⟩
        case measure => simp [intOf]; omega
      · obtain rfl : k = R := by omega
        have HQ : Hid (b'.quiet = true) := Lib.hid (by rw [HK.out]; exact HRS.out.2.1)
        go_wp2_with fail
        refine (impl_BuildQuiet (v := v') (b := b') HS.out (Nat.le_refl _) HR.out).mono ?_
        rintro e w5 ⟨rfl, hb5⟩
        rw [HQ.out]
        have HB5 := Lib.hid (HB.out.trans (hb5.mono HB.out.size))
        clear hb5 c0
        go_wp2
        go_ret
        exact ⟨ret_int HE.out.symm, HB5.out⟩
set_option maxHeartbeats 6400000 in
theorem spec_RestTicks {w : World} {B : Nat} {v : Bv} {b : Bld} (hn : b.Small) (hB : B ≤ w.heap.size) (hr : ReadB w B v b) :
    Calls Try.prog 35 #[bval v b] w fun e w' => e = .returned (.int .i64 b.restTicks) ∧ Below w.heap.size w w' := by
  have HX0 := Lib.hid (Bx.new w (bcells v b) 36)
  have HB0 := Lib.hid ((Below.refl w.heap.size w).alloc (Nat.le_refl _) (.cells (bcells v b) 36))
  have HR0 := Lib.hid (hr.alloc hB (.cells (bcells v b) 36))
  have HSm := Lib.hid hn
  clear hr hn
  unfold bval bcells at *
  go_enter Try.func35, Try.ntmps35
  go_wp2_with fail
  refine (spec_BuildValid (v := v) (b := b) HSm.out (Nat.le_trans hB HB0.out.size) HR0.out).mono ?_
  rintro e w1 ⟨rfl, hb1⟩
  have HX1 := Lib.hid (HX0.out.below hb1 HX0.out.lt)
  have HB1 := Lib.hid (HB0.out.trans (hb1.mono HB0.out.size))
  have HR1 := Lib.hid (HR0.out.below (hb1.mono (Nat.le_trans hB HB0.out.size)))
  clear hb1 HX0 HB0 HR0
  cases hv : b.valid
  · have HE := Lib.hid (restTicks_no hv)
    go_wp2
    go_ret
    exact ⟨ret_int HE.out.symm, HB1.out⟩
  · have HE := Lib.hid (restTicks_yes hv)
    have hok := valid_iff.1 hv
    have HOK := Lib.hid hok
    have HRS := Lib.hid (rest_spec hok)
    have hrb := (rest_bound hok).2
    clear hv hok
    generalize b.rest = R at *
    have HRB := Lib.hid (HR1.out.more (Nat.le_trans hB HB1.out.size))
    go_wp2
    go_loopw [3] (fun s3 wr => ∃ (k : Nat) (v' : Bv) (b' : Bld), s3 = .int .i64 k ∧ k ≤ R ∧ Hid (b' = b.after k) ∧ Hid (Bx wr w.heap.size (bcells v' b')) ∧ Hid (ReadB wr wr.heap.size v' b') ∧ Hid (Below w.heap.size w wr)) (fun s3 _ => R - (intOf s3).toNat)
    case atStart => exact ⟨0, v, b, rfl, by omega, Lib.hid rfl, HX1, HRB, HB1⟩
    case round =>
      obtain ⟨k, v', b', rfl, hk, HK, HX, HR, HB⟩ := hrel
      have HS : Hid b'.Small := Lib.hid (by rw [HK.out]; exact after_small HSm.out k)
      have HT : Hid (b'.ticked false = b.after (k + 1)) := Lib.hid (by rw [HK.out]; exact ticked_after HOK.out k)
      unfold bcells at HX
      have c0 := HX.out.cells
      by_cases hlt : k < R
      · have HQ : Hid (b'.quiet = false) := Lib.hid (by rw [HK.out]; exact HRS.out.2.2 k hlt)
        go_wp2_with fail
        refine (spec_BuildQuiet (v := v') (b := b') HS.out (Nat.le_refl _) HR.out).mono ?_
        rintro e w5 ⟨rfl, hb5⟩
        rw [HQ.out]
        have HX5 := Lib.hid (HX.out.below hb5 HX.out.lt)
        have HB5 := Lib.hid (HB.out.trans (hb5.mono HB.out.size))
        have HR5 := Lib.hid ((HR.out.below hb5).more hb5.size)
        clear hb5 HX HB HR c0
        have c0 := HX5.out.cells
        have z0 := HX5.out.free
        go_wp2_with fail
        refine (spec_BuildTick (v := v') (b := b') false HS.out (Nat.le_refl _) HR5.out).mono ?_
        unfold TickPost
        rw [HT.out]
        rintro e w6 ⟨v6, rfl, ho6, hb6⟩
        have HP := Lib.hid (put_own HX5.out HB5.out (Nat.le_refl _) hb6 ho6)
        have c6 := (HX5.out.below hb6 HX5.out.lt).cells
        have z6 := (HX5.out.below hb6 HX5.out.lt).free
        clear hb6 ho6 c0 z0
        generalize hb6 : b.after (k + 1) = b6 at *
        have HB6 := Lib.hid hb6
        clear hb6
        simp only [bval, bcells]
        go_wp2
        go_roundw
        case rel => exact ⟨k + 1, v6, b6, by go_num, by omega, Lib.hid HB6.out.symm, Lib.hid HP.out.1, Lib.hid HP.out.2.2.read, Lib.hid HP.out.2.1⟩
        case measure => simp [intOf]; omega
      · obtain rfl : k = R := by omega
        have HQ : Hid (b'.quiet = true) := Lib.hid (by rw [HK.out]; exact HRS.out.2.1)
        go_wp2_with fail
        refine (spec_BuildQuiet (v := v') (b := b') HS.out (Nat.le_refl _) HR.out).mono ?_
        rintro e w5 ⟨rfl, hb5⟩
        rw [HQ.out]
        have HB5 := Lib.hid (HB.out.trans (hb5.mono HB.out.size))
        clear hb5 c0
        go_wp2
        go_ret
        exact ⟨ret_int HE.out.symm, HB5.out⟩
end Go.Proofs.Ytailpiagjemhpaa

namespace Go.Proofs.Ytailpiagjemhpaa
open Go.RowKit
set_option linter.unusedVariables false
set_option linter.unusedSimpArgs false

/-- What RestEnd answers. -/
def EndPost (b : Bld) (w : World) (e : Ending) (w' : World) : Prop := ∃ v', e = .returned (bval v' b.rested) ∧ OwnB w' w.heap.size v' b.rested ∧ Below w.heap.size w w'
set_option maxHeartbeats 6400000 in
theorem impl_RestEnd_no {w : World} {B : Nat} {v : Bv} {b : Bld} (hn : b.Small) (hB : B ≤ w.heap.size) (hr : ReadB w B v b) (hv : b.valid = false) :
    Calls Try.prog 49 #[bval v b] w (EndPost b w) := by
  have HR := Lib.hid hr
  have HSm := Lib.hid hn
  have HV := Lib.hid hv
  have HE := Lib.hid (rested_no hv)
  obtain ⟨m0, m1, m2, m3⟩ := hn
  clear hr hv
  unfold bval bcells EndPost
  go_enter Try.func49, Try.ntmps49
  go_wp2_with fail
  refine (impl_BuildValid (v := v) (b := b) HSm.out (Nat.le_trans hB (by simp <;> omega)) ((HR.out.alloc hB _).alloc (Nat.le_trans hB (by simp <;> omega)) _)).mono ?_
  rintro e w1 ⟨rfl, hb1⟩
  obtain ⟨x, y, hbb, hs1⟩ := boxes2' hb1
  have HB1 := Lib.hid hbb
  have c1 := y.cells
  have z1 := y.free
  clear hb1 x y hbb
  rw [HV.out]
  go_wp2
  refine bodyPost_ret (v := bval Bv.none Bld.none) (by simp [bval, bcells, Bv.none, Bld.none, results, Try.results49, go_sem, c1]) rfl ⟨Bv.none, by rw [HE.out], ?_, ?_⟩
  · rw [HE.out]
    exact own_none _ _
  · repeat (refine below_set (by simp <;> omega) ?_)
    exact HB1.out
set_option maxHeartbeats 6400000 in
theorem spec_RestEnd_no {w : World} {B : Nat} {v : Bv} {b : Bld} (hn : b.Small) (hB : B ≤ w.heap.size) (hr : ReadB w B v b) (hv : b.valid = false) :
    Calls Try.prog 50 #[bval v b] w (EndPost b w) := by
  have HR := Lib.hid hr
  have HSm := Lib.hid hn
  have HV := Lib.hid hv
  have HE := Lib.hid (rested_no hv)
  obtain ⟨m0, m1, m2, m3⟩ := hn
  clear hr hv
  unfold bval bcells EndPost
  go_enter Try.func50, Try.ntmps50
  go_wp2_with fail
  refine (spec_BuildValid (v := v) (b := b) HSm.out (Nat.le_trans hB (by simp <;> omega)) ((HR.out.alloc hB _).alloc (Nat.le_trans hB (by simp <;> omega)) _)).mono ?_
  rintro e w1 ⟨rfl, hb1⟩
  obtain ⟨x, y, hbb, hs1⟩ := boxes2' hb1
  have HB1 := Lib.hid hbb
  have c1 := y.cells
  have z1 := y.free
  clear hb1 x y hbb
  rw [HV.out]
  go_wp2
  refine bodyPost_ret (v := bval Bv.none Bld.none) (by simp [bval, bcells, Bv.none, Bld.none, results, Try.results50, go_sem, c1]) rfl ⟨Bv.none, by rw [HE.out], ?_, ?_⟩
  · rw [HE.out]
    exact own_none _ _
  · repeat (refine below_set (by simp <;> omega) ?_)
    exact HB1.out

set_option maxHeartbeats 6400000 in
theorem impl_RestEnd_yes {w : World} {B : Nat} {v : Bv} {b : Bld} (hn : b.Small) (hB : B ≤ w.heap.size) (hr : ReadB w B v b) (hv : b.valid = true) :
    Calls Try.prog 49 #[bval v b] w (EndPost b w) := by
  have hok := valid_iff.1 hv
  have HSZ := Lib.hid hok.sizes
  have HOK := Lib.hid hok
  have HRS := Lib.hid (rest_spec hok)
  have HR := Lib.hid hr
  have HSm := Lib.hid hn
  have HV := Lib.hid hv
  have HE := Lib.hid (rested_yes hv)
  clear hr hn hv hok
  unfold EndPost
  rw [HE.out]
  generalize b.rest = R at *
  unfold bval bcells
  go_enter Try.func49, Try.ntmps49
  go_wp2_with fail
  refine (impl_BuildValid (v := v) (b := b) HSm.out (Nat.le_trans hB (by simp <;> omega)) ((HR.out.alloc hB _).alloc (Nat.le_trans hB (by simp <;> omega)) _)).mono ?_
  rintro e w1 ⟨rfl, hb1⟩
  obtain ⟨x, y, hbb, hs1⟩ := boxes2' hb1
  have HX1 := Lib.hid x
  have HY1 := Lib.hid y
  have HB1 := Lib.hid hbb
  have c0 := x.cells
  clear hb1 x y hbb
  rw [HV.out]
  go_wp2_with fail
  refine (copyBuilding_any (v := v) (b := b) (by have := HSZ.out; omega) (by have := HSZ.out; omega) (by have := HSZ.out; omega) (by have := HSZ.out; omega) (by have := HSZ.out; omega) (Nat.le_trans hB HB1.out.size) (HR.out.below (HB1.out.mono hB))).mono ?_
  rintro e w2 ⟨v2, rfl, ho2, hb2⟩
  have x2 := HX1.out.below hb2 HX1.out.lt
  have z2 := x2.free
  have c2 := x2.cells
  have F2 := store_building v2 b x2 (HY1.out.below hb2 HY1.out.lt) (by omega) (HB1.out.trans (hb2.mono HB1.out.size)) (Nat.le_refl _) (ho2.mono (base' := w.heap.size + 2) hs1) (by omega) (Nat.le_trans hs1 hb2.size)
  clear hb2 ho2 x2 c0 HX1 HY1 HB1
  obtain ⟨W3, hW, x3, y3, hb3, ho3, hs3⟩ := F2
  subst hW
  have HX3 := Lib.hid x3
  have HY3 := Lib.hid y3
  have HB3 := Lib.hid hb3
  have HO3 := Lib.hid ho3
  clear x3 y3 hb3 ho3
  simp only [bval, bcells]
  go_wp2
  go_loopg [] R (fun m wr => ∃ (k : Nat) (v' : Bv) (b' : Bld), k + m = R ∧ Hid (b' = b.after k) ∧ Hid (Bx wr w.heap.size (bcells v' b')) ∧ Hid (Bx wr (w.heap.size + 1) #[.slice none 0 0, .int .i64 0, .int .i64 0, .int .i64 0, .int .i64 0, .slice none 0 0, .slice none 0 0, .slice none 0 0, .int .i64 0, .int .i64 0, .bool false]) ∧ Hid (OwnB wr (w.heap.size + 2) v' b') ∧ Hid (Below w.heap.size w wr) ∧ w.heap.size + 2 ≤ wr.heap.size)
  case atStart => exact ⟨0, v2, b, by omega, Lib.hid rfl, HX3, HY3, HO3, HB3, hs3⟩
  case round =>
    obtain ⟨k, v', b', hkm, HK, HX, HY, HO, HB, hsz⟩ := hrel
    have HS : Hid b'.Small := Lib.hid (by rw [HK.out]; exact after_small HSm.out k)
    have HT : Hid (b'.ticked false = b.after (k + 1)) := Lib.hid (by rw [HK.out]; exact ticked_after HOK.out k)
    unfold bcells at HX
    have c0 := HX.out.cells
    by_cases hlt : 0 < gk
    · have HQ : Hid (b'.quiet = false) := Lib.hid (by rw [HK.out]; exact HRS.out.2.2 k (by omega))
      go_wp2_with fail
      refine (impl_BuildQuiet (v := v') (b := b') HS.out (Nat.le_refl _) HO.out.read).mono ?_
      rintro e w5 ⟨rfl, hb5⟩
      rw [HQ.out]
      have HX5 := Lib.hid (HX.out.below hb5 HX.out.lt)
      have HY5 := Lib.hid (HY.out.below hb5 HY.out.lt)
      have HB5 := Lib.hid (HB.out.trans (hb5.mono HB.out.size))
      have HO5 := Lib.hid (ownB_below HO.out hb5)
      have hsz5 := Nat.le_trans hsz hb5.size
      clear hb5 HX HY HB HO c0
      have c0 := HX5.out.cells
      have z0 := HX5.out.free
      go_wp2_with fail
      refine (impl_BuildTick (v := v') (b := b') false HS.out (Nat.le_refl _) HO5.out.read).mono ?_
      unfold TickPost
      rw [HT.out]
      rintro e w6 ⟨v6, rfl, ho6, hb6⟩
      have HP := Lib.hid (put_building (base := w.heap.size + 2) HX5.out HY5.out (by omega) HB5.out (Nat.le_refl _) hb6 ho6 hsz5)
      have c6 := (HX5.out.below hb6 HX5.out.lt).cells
      have z6 := (HX5.out.below hb6 HX5.out.lt).free
      have hsz6 := Nat.le_trans hsz5 hb6.size
      clear hb6 ho6 c0 z0
      generalize hb6 : b.after (k + 1) = b6 at *
      have HB6 := Lib.hid hb6
      clear hb6
      simp only [bval, bcells]
      go_wp2
      go_roundg (gk - 1)
      case rel => exact ⟨k + 1, v6, b6, by omega, Lib.hid HB6.out.symm, Lib.hid HP.out.1, Lib.hid HP.out.2.1, Lib.hid HP.out.2.2.2.1, Lib.hid HP.out.2.2.1, by simpa using hsz6⟩
      case measure => omega
    · obtain rfl : k = R := by omega
      have HQ : Hid (b'.quiet = true) := Lib.hid (by rw [HK.out]; exact HRS.out.2.1)
      go_wp2_with fail
      refine (impl_BuildQuiet (v := v') (b := b') HS.out (Nat.le_refl _) HO.out.read).mono ?_
      rintro e w5 ⟨rfl, hb5⟩
      rw [HQ.out]
      have HX5 := Lib.hid (HX.out.below hb5 HX.out.lt)
      have HY5 := Lib.hid (HY.out.below hb5 HY.out.lt)
      have HB5 := Lib.hid (HB.out.trans (hb5.mono HB.out.size))
      have HO5 := Lib.hid (ownB_below HO.out hb5)
      have HN : Hid (b.after k = b') := Lib.hid HK.out.symm
      clear hb5 HX HY HB HO c0
      have c0 := HX5.out.cells
      have c1 := HY5.out.cells
      have z1 := HY5.out.free
      go_wp2
      refine bodyPost_ret (v := bval v' b') (by simp [bval, bcells, results, Try.results49, go_sem, c0, c1]) rfl ⟨v', by rw [HN.out]; rfl, ?_, ?_⟩
      · rw [HN.out]
        refine OwnB.mono (base := w.heap.size + 2) ?_ (by omega)
        repeat (refine ownB_set (by simp <;> omega) ?_)
        exact HO5.out
      · repeat (refine below_set (by simp <;> omega) ?_)
        exact HB5.out

set_option maxHeartbeats 6400000 in
theorem spec_RestEnd_yes {w : World} {B : Nat} {v : Bv} {b : Bld} (hn : b.Small) (hB : B ≤ w.heap.size) (hr : ReadB w B v b) (hv : b.valid = true) :
    Calls Try.prog 50 #[bval v b] w (EndPost b w) := by
  have hok := valid_iff.1 hv
  have HSZ := Lib.hid hok.sizes
  have HOK := Lib.hid hok
  have hrb := (rest_bound hok).2
  have HR := Lib.hid hr
  have HSm := Lib.hid hn
  have HV := Lib.hid hv
  have HE := Lib.hid (rested_yes hv)
  have HT0 := Lib.hid (restTicks_yes hv)
  clear hr hn hv hok
  unfold EndPost
  rw [HE.out]
  generalize b.rest = R at *
  unfold bval bcells
  go_enter Try.func50, Try.ntmps50
  go_wp2_with fail
  refine (spec_BuildValid (v := v) (b := b) HSm.out (Nat.le_trans hB (by simp <;> omega)) ((HR.out.alloc hB _).alloc (Nat.le_trans hB (by simp <;> omega)) _)).mono ?_
  rintro e w1 ⟨rfl, hb1⟩
  obtain ⟨x, y, hbb, hs1⟩ := boxes2' hb1
  have HX1 := Lib.hid x
  have HY1 := Lib.hid y
  have HB1 := Lib.hid hbb
  have c0 := x.cells
  clear hb1 x y hbb
  rw [HV.out]
  go_wp2_with fail
  refine (spec_RestTicks (v := v) (b := b) HSm.out (Nat.le_trans hB HB1.out.size) (HR.out.below (HB1.out.mono hB))).mono ?_
  rintro e w2 ⟨rfl, hb2⟩
  rw [HT0.out]
  have HX2 := Lib.hid (HX1.out.below hb2 HX1.out.lt)
  have HY2 := Lib.hid (HY1.out.below hb2 HY1.out.lt)
  have HB2 := Lib.hid (HB1.out.trans (hb2.mono HB1.out.size))
  have hs2 := Nat.le_trans hs1 hb2.size
  clear hb2 c0 HX1 HY1 HB1
  have c0 := HX2.out.cells
  go_wp2_with fail
  refine (l27Copy_any (v := v) (b := b) (by have := HSZ.out; omega) (by have := HSZ.out; omega) (by have := HSZ.out; omega) (by have := HSZ.out; omega) (by have := HSZ.out; omega) (by have := HSZ.out; omega) (by have := HSZ.out; omega) (by have := HSZ.out; omega) (Nat.le_trans hB HB2.out.size) (HR.out.below (HB2.out.mono hB))).mono ?_
  rintro e w3 ⟨v3, rfl, ho3, hb3⟩
  simp only [bval, bcells]
  have HY3 := Lib.hid ((HY2.out.below hb3 HY2.out.lt).alloc (.cells (bcells v3 b) 36))
  have HZ3 := Lib.hid (Bx.new w3 (bcells v3 b) 36)
  have HB3 := Lib.hid ((HB2.out.trans (hb3.mono HB2.out.size)).alloc (Nat.le_trans HB2.out.size hb3.size) (.cells (bcells v3 b) 36))
  have HO3 := Lib.hid (ownB_below (ho3.mono (base' := w.heap.size + 2) hs2) ((Below.refl w3.heap.size w3).alloc (Nat.le_refl _) (.cells (bcells v3 b) 36)))
  have HOFF := Lib.hid (own_off ho3 (.inr (Nat.le_refl _)))
  have hs3 : w.heap.size + 2 ≤ w3.heap.size := Nat.le_trans hs2 hb3.size
  clear hb3 ho3 c0 HX2 HY2 HB2
  unfold bcells at HY3 HZ3 HB3 HO3
  go_wp2
  go_loopw [5] (fun s5 wr => ∃ (k : Nat) (v' : Bv) (b' : Bld), s5 = .int .i64 k ∧ k ≤ R ∧ Hid (b' = b.after k) ∧ Hid (Bx wr w3.heap.size (bcells v' b')) ∧ Hid (Bx wr (w.heap.size + 1) #[.slice none 0 0, .int .i64 0, .int .i64 0, .int .i64 0, .int .i64 0, .slice none 0 0, .slice none 0 0, .slice none 0 0, .int .i64 0, .int .i64 0, .bool false]) ∧ Hid (OwnB wr (w.heap.size + 2) v' b') ∧ Hid (Off w3.heap.size v') ∧ Hid (Below w.heap.size w wr)) (fun s5 _ => R - (intOf s5).toNat)
  case atStart => exact ⟨0, v3, b, rfl, by omega, Lib.hid rfl, HZ3, HY3, HO3, HOFF, HB3⟩
  case round =>
    obtain ⟨k, v', b', rfl, hk, HK, HX, HY, HO, HF, HB⟩ := hrel
    clear HY3 HZ3 HB3 HO3 HOFF
    have HS : Hid b'.Small := Lib.hid (by rw [HK.out]; exact after_small HSm.out k)
    have HT : Hid (b'.ticked false = b.after (k + 1)) := Lib.hid (by rw [HK.out]; exact ticked_after HOK.out k)
    have hwr := HX.out.lt
    unfold bcells at HX
    have c0 := HX.out.cells
    have z0 := HX.out.free
    by_cases hlt : k < R
    · go_wp2_with fail
      refine (spec_BuildTick (v := v') (b := b') false HS.out (Nat.le_refl _) HO.out.read).mono ?_
      unfold TickPost
      rw [HT.out]
      rintro e w6 ⟨v6, rfl, ho6, hb6⟩
      have HP := Lib.hid (put_building (base := w.heap.size + 2) HX.out HY.out (by omega) HB.out (by omega) hb6 ho6 (by omega))
      have c6 := (HX.out.below hb6 HX.out.lt).cells
      have z6 := (HX.out.below hb6 HX.out.lt).free
      clear hb6 ho6 c0 z0
      generalize hb6 : b.after (k + 1) = b6 at *
      have HB6 := Lib.hid hb6
      clear hb6
      simp only [bval, bcells]
      go_wp2
      go_roundw
      case rel => exact ⟨k + 1, v6, b6, by go_num, by omega, Lib.hid HB6.out.symm, Lib.hid HP.out.1, Lib.hid HP.out.2.1, Lib.hid HP.out.2.2.2.1, Lib.hid HP.out.2.2.2.2, Lib.hid HP.out.2.2.1⟩
      case measure => simp [intOf]; omega
    · obtain rfl : k = R := by omega
      have HN : Hid (b.after k = b') := Lib.hid HK.out.symm
      have c1 := HY.out.cells
      have z1 := HY.out.free
      go_wp2
      refine bodyPost_ret (v := bval v' b') (by simp [bval, bcells, results, Try.results50, go_sem, c0, c1]) rfl ⟨v', by rw [HN.out]; rfl, ?_, ?_⟩
      · rw [HN.out]
        refine OwnB.mono (base := w.heap.size + 2) ?_ (by omega)
        repeat (refine ownB_set (by simp <;> omega) ?_)
        exact HO.out
      · repeat (refine below_set (by simp <;> omega) ?_)
        exact HB.out

theorem impl_RestEnd {w : World} {B : Nat} {v : Bv} {b : Bld} (hn : b.Small) (hB : B ≤ w.heap.size) (hr : ReadB w B v b) :
    Calls Try.prog 49 #[bval v b] w (EndPost b w) := by
  cases hv : b.valid
  · exact impl_RestEnd_no hn hB hr hv
  · exact impl_RestEnd_yes hn hB hr hv
theorem spec_RestEnd {w : World} {B : Nat} {v : Bv} {b : Bld} (hn : b.Small) (hB : B ≤ w.heap.size) (hr : ReadB w B v b) :
    Calls Try.prog 50 #[bval v b] w (EndPost b w) := by
  cases hv : b.valid
  · exact spec_RestEnd_no hn hB hr hv
  · exact spec_RestEnd_yes hn hB hr hv
end Go.Proofs.Ytailpiagjemhpaa

namespace Go.Proofs.Ytailpiagjemhpaa
open Go.RowKit
set_option linter.unusedVariables false
set_option linter.unusedSimpArgs false

/-- A row reads as a list. -/
def RowL (w : World) (base : Nat) (A : Option Addr) (n c : Nat) (l : List Int) : Prop := n = l.length ∧ Row w base A n c (fun i => l.getD i 0)
theorem RowL.snoc {w : World} {base n c : Nat} {A : Option Addr} {l : List Int} {X : Int} (hn : n = l.length) (h : Row w base A (n + 1) c (snoc (fun i => l.getD i 0) n X)) : RowL w base A (n + 1) c (l ++ [X]) := by
  subst hn
  refine ⟨by simp, h.congr fun i hi => ?_⟩
  by_cases e : i < l.length
  · rw [snoc_lo e]
    simp [List.getD, List.getElem?_append_left e]
  · have : i = l.length := by omega
    subst this
    rw [snoc_at]
    simp [List.getD]
theorem RowL.nil (w : World) (base : Nat) : RowL w base none 0 0 [] := ⟨rfl, Row.nil w base _⟩
theorem Bx.kept2 {W W' : World} {g : Nat} {xs : Array Value} {row : Option Nat} (h : Bx W g xs) (hg : W.grownBy W' row) (hne : ∀ b, row = some b → b ≠ g) : Bx W' g xs := by
  have hl := h.lt
  obtain ⟨T, h'⟩ := h
  exact ⟨T, (hg.block g hl (fun e => hne g e.symm rfl)).trans h'⟩
/-- What RestVisits answers. -/
def VisPost (b : Bld) (w : World) (e : Ending) (w' : World) : Prop := ∃ A n c, e = .returned (.slice A n c) ∧ RowL w' w.heap.size A n c b.visits ∧ Below w.heap.size w w'
/-- The next building is stored into box g. -/
theorem put_next {w W : World} {base5 n c : Nat} {v v' : Bv} {b b' : Bld} {A : Option Addr} {f : Nat → Int} (x : Bx W w.heap.size (bcells v b)) (o : OwnB W base5 v' b') (hb5 : w.heap.size < base5) (r : Row W (w.heap.size + 1) A n c f) (hB : Below w.heap.size w W) :
    Bx (sets W (putL w.heap.size v' b')) w.heap.size (bcells v' b') ∧ ReadB (sets W (putL w.heap.size v' b')) (sets W (putL w.heap.size v' b')).heap.size v' b' ∧ Row (sets W (putL w.heap.size v' b')) (w.heap.size + 1) A n c f ∧ Below w.heap.size w (sets W (putL w.heap.size v' b')) := by
  unfold bcells at x
  exact ⟨x.put v' b', (sets_own _ o (fun q hq => by rw [putL_block q hq]; exact hb5)).read, sets_row _ r (fun q hq => by rw [putL_block q hq]; omega), sets_below _ hB (fun q hq => by rw [putL_block q hq]; exact Nat.le_refl _)⟩
theorem ownB_kept {W W' : World} {base n c : Nat} {v : Bv} {b : Bld} {A : Option Addr} (o : OwnB W base v b) (hr : ∀ k, (Value.slice A n c).ownBlock = some k → k < base) (hg : W.grownBy W' (Value.slice A n c).ownBlock) : OwnB W' base v b :=
  o.kept hg (.inr fun k e => .inl (hr k e))

set_option maxHeartbeats 6400000 in
theorem impl_RestVisits {w : World} {B : Nat} {v : Bv} {b : Bld} (hn : b.Small) (hB : B ≤ w.heap.size) (hr : ReadB w B v b) :
    Calls Try.prog 44 #[bval v b] w (VisPost b w) := by
  have HX0 := Lib.hid (Bx.new w (bcells v b) 36)
  have HB0 := Lib.hid ((Below.refl w.heap.size w).alloc (Nat.le_refl _) (.cells (bcells v b) 36))
  have HR0 := Lib.hid (hr.alloc hB (.cells (bcells v b) 36))
  have HSm := Lib.hid hn
  clear hr hn
  unfold VisPost
  unfold bval bcells at *
  go_enter Try.func44, Try.ntmps44
  go_wp2_with fail
  refine (impl_BuildValid (v := v) (b := b) HSm.out (Nat.le_trans hB HB0.out.size) HR0.out).mono ?_
  rintro e w1 ⟨rfl, hb1⟩
  have HX1 := Lib.hid (HX0.out.below hb1 HX0.out.lt)
  have HB1 := Lib.hid (HB0.out.trans (hb1.mono HB0.out.size))
  have HR1 := Lib.hid (HR0.out.below (hb1.mono (Nat.le_trans hB HB0.out.size)))
  clear hb1 HX0 HB0 HR0
  cases hv : b.valid
  · have HE := Lib.hid (visits_no hv)
    go_wp2
    go_ret
    exact ⟨none, 0, 0, rfl, by rw [HE.out]; exact RowL.nil _ _, HB1.out⟩
  · have HE := Lib.hid (visits_yes hv)
    have hok := valid_iff.1 hv
    have HOK := Lib.hid hok
    have HRS := Lib.hid (rest_spec hok)
    have hrb := (rest_bound hok).2
    clear hv hok
    generalize b.rest = R at *
    have HRB := Lib.hid (HR1.out.more (Nat.le_trans hB HB1.out.size))
    go_wp2
    go_loopg [3] R (fun m s3 wr => ∃ (k : Nat) (v' : Bv) (b' : Bld) (A : Option Addr) (n c : Nat), s3 = .slice A n c ∧ k + m = R ∧ Hid (b' = b.after k) ∧ Hid (n = (b.visL k).length) ∧ n ≤ k ∧ Hid (Bx wr w.heap.size (bcells v' b')) ∧ Hid (ReadB wr wr.heap.size v' b') ∧ Hid (Row wr (w.heap.size + 1) A n c (fun i => (b.visL k).getD i 0)) ∧ Hid (Below w.heap.size w wr))
    case atStart => exact ⟨0, v, b, none, 0, 0, rfl, by omega, Lib.hid rfl, Lib.hid rfl, by omega, HX1, HRB, Lib.hid (Row.nil _ _ _), HB1⟩
    case round =>
      obtain ⟨k, v', b', A, n, c, rfl, hkm, HK, HNL, hnk, HX, HR, HRow, HB⟩ := hrel
      have HS : Hid b'.Small := Lib.hid (by rw [HK.out]; exact after_small HSm.out k)
      have HT : Hid (b'.ticked false = b.after (k + 1)) := Lib.hid (by rw [HK.out]; exact ticked_after HOK.out k)
      unfold bcells at HX
      have c0 := HX.out.cells
      by_cases hlt : 0 < gk
      · have HQ : Hid (b'.quiet = false) := Lib.hid (by rw [HK.out]; exact HRS.out.2.2 k (by omega))
        go_wp2_with fail
        refine (impl_BuildQuiet (v := v') (b := b') HS.out (Nat.le_refl _) HR.out).mono ?_
        rintro e w5 ⟨rfl, hb5⟩
        rw [HQ.out]
        have HX5 := Lib.hid (HX.out.below hb5 HX.out.lt)
        have HB5 := Lib.hid (HB.out.trans (hb5.mono HB.out.size))
        have HR5 := Lib.hid ((HR.out.below hb5).more hb5.size)
        have HRow5 := Lib.hid (HRow.out.below hb5 (Nat.le_refl _))
        clear hb5 HX HB HR HRow c0
        have c0 := HX5.out.cells
        go_wp2_with fail
        refine (impl_BuildTick (v := v') (b := b') false HS.out (Nat.le_refl _) HR5.out).mono ?_
        unfold TickPost
        rw [HT.out]
        rintro e w6 ⟨v6, rfl, ho6, hb6⟩
        have HOP : Hid (b'.op = (b.after k).op) := Lib.hid (by rw [HK.out])
        have HV1 := Lib.hid (@visL_yes b k)
        have HV2 := Lib.hid (@visL_no1 b k)
        have HV3 := Lib.hid (@visL_no2 b k)
        rw [← HOP.out] at HV1 HV3
        have HSM6 : Hid (b.after (k + 1)).Small := Lib.hid (after_small HSm.out _)
        generalize hb6' : b.after (k + 1) = b6 at *
        have HB6' := Lib.hid hb6'
        clear hb6' HOP
        obtain ⟨n6, f6, p6, s6, g6, h6, nu6, up6, nd6, dn6, nc6, car6, fl6, dir6, op6⟩ := b6
        have HX6 := Lib.hid ((HX5.out.below hb6 HX5.out.lt).alloc (.cells (bcells v6 ⟨n6, f6, p6, s6, g6, h6, nu6, up6, nd6, dn6, nc6, car6, fl6, dir6, op6⟩) 36))
        have HN6 := Lib.hid (Bx.new w6 (bcells v6 ⟨n6, f6, p6, s6, g6, h6, nu6, up6, nd6, dn6, nc6, car6, fl6, dir6, op6⟩) 36)
        have HB6 := Lib.hid ((HB5.out.trans (hb6.mono HB5.out.size)).alloc (Nat.le_trans HB5.out.size hb6.size) (.cells (bcells v6 ⟨n6, f6, p6, s6, g6, h6, nu6, up6, nd6, dn6, nc6, car6, fl6, dir6, op6⟩) 36))
        have HO6 := Lib.hid (ownB_below ho6 ((Below.refl w6.heap.size w6).alloc (Nat.le_refl _) (.cells (bcells v6 ⟨n6, f6, p6, s6, g6, h6, nu6, up6, nd6, dn6, nc6, car6, fl6, dir6, op6⟩) 36)))
        have HRow6 := Lib.hid ((HRow5.out.below hb6 (Nat.le_refl _)).alloc (.cells (bcells v6 ⟨n6, f6, p6, s6, g6, h6, nu6, up6, nd6, dn6, nc6, car6, fl6, dir6, op6⟩) 36))
        have HPL : Hid (∀ k, (Value.slice A n c).ownBlock = some k → k < w5.heap.size) := Lib.hid (fun k e => (World.ownsRow.lt HRow5.out k e).2)
        have hx5 := HX5.out.lt
        have hs6 := hb6.size
        clear hb6 ho6 c0 HX5 HB5 HR5 HRow5
        simp only [bval, bcells] at *
        have c0 := HX6.out.cells
        have z0 := HX6.out.free
        have c4 := HN6.out.cells
        cases op6
        · have HLL := Lib.hid (HV2.out rfl)
          have HP := Lib.hid (put_next HX6.out HO6.out hx5 HRow6.out HB6.out)
          clear HV1 HV2 HV3
          go_wp2
          go_roundg (gk - 1)
          case rel => exact ⟨k + 1, v6, ⟨n6, f6, p6, s6, g6, h6, nu6, up6, nd6, dn6, nc6, car6, fl6, dir6, false⟩, A, n, c, rfl, by omega, Lib.hid HB6'.out.symm, Lib.hid (by rw [HLL.out]; exact HNL.out), by omega, Lib.hid HP.out.1, Lib.hid HP.out.2.1, Lib.hid (by rw [HLL.out]; exact HP.out.2.2.1), Lib.hid HP.out.2.2.2⟩
          case measure => omega
        · cases hop' : b'.op
          · have HLL := Lib.hid (HV1.out rfl hop')
            clear HV1 HV2 HV3
            go_wp2_with fail
            refine (standingFloor_any (n := n6) (f := f6) p6 s6 (by have h : n6 ≤ 17592186044415 := HSM6.out.1; omega) (Nat.le_refl _) HO6.out.read.h).mono ?_
            rintro e w7 ⟨rfl, hb7⟩
            have HX7 := Lib.hid (HX6.out.below hb7 HX6.out.lt)
            have HN7 := Lib.hid (HN6.out.below hb7 HN6.out.lt)
            have HB7 := Lib.hid (HB6.out.trans (hb7.mono HB6.out.size))
            have HO7 := Lib.hid (ownB_below HO6.out hb7)
            have HRow7 := Lib.hid (HRow6.out.below hb7 (Nat.le_refl _))
            have hs7 : w6.heap.size + 1 ≤ w7.heap.size := by have := hb7.size; simpa using this
            clear hb7 c0 z0 c4 HX6 HN6 HB6 HO6 HRow6
            rw [show standF f6 n6 p6 s6 = Bld.stand ⟨n6, f6, p6, s6, g6, h6, nu6, up6, nd6, dn6, nc6, car6, fl6, dir6, true⟩ from rfl]
            generalize hst : Bld.stand ⟨n6, f6, p6, s6, g6, h6, nu6, up6, nd6, dn6, nc6, car6, fl6, dir6, true⟩ = st at *
            go_wp2_with (at_builtin; refine append_int _ rfl _ _ rfl rfl (HRow7.out.alloc _) w7.heap.size st rfl (by simp) (by omega) (by simp; omega) ?_; intro A8 c8 w8 hr8 hg8; have HX8 := Lib.hid ((HX7.out.alloc (.cells #[.int .i64 st] 3)).kept2 hg8 (fun k e => by have := HRow7.out.own k e; omega)); have HN8 := Lib.hid ((HN7.out.alloc (.cells #[.int .i64 st] 3)).kept2 hg8 (fun k e => by have := HPL.out k e; omega)); have HO8 := Lib.hid (ownB_kept (ownB_below HO7.out ((Below.refl w7.heap.size w7).alloc (Nat.le_refl _) (.cells #[.int .i64 st] 3))) HPL.out hg8); have HB8 := Lib.hid ((HB7.out.alloc HB7.out.size (.cells #[.int .i64 st] 3)).grown hg8 (by simp; omega) (fun k e => by have := HRow7.out.own k e; omega)); have HP := Lib.hid (put_next HX8.out HO8.out hx5 hr8 HB8.out); have HR8 := Lib.hid hr8; clear hr8 hg8; have c0 := HX8.out.cells; have z0 := HX8.out.free; have c4 := HN8.out.cells)
            go_roundg (gk - 1)
            case rel => exact ⟨k + 1, v6, ⟨n6, f6, p6, s6, g6, h6, nu6, up6, nd6, dn6, nc6, car6, fl6, dir6, true⟩, A8, n + 1, c8, rfl, by omega, Lib.hid HB6'.out.symm, Lib.hid (by rw [HLL.out]; simp [HNL.out]), by omega, Lib.hid HP.out.1, Lib.hid HP.out.2.1, Lib.hid (by rw [HLL.out]; exact (RowL.snoc HNL.out HP.out.2.2.1).2), Lib.hid HP.out.2.2.2⟩
            case measure => omega
          · have HLL := Lib.hid (HV3.out hop')
            have HP := Lib.hid (put_next HX6.out HO6.out hx5 HRow6.out HB6.out)
            clear HV1 HV2 HV3
            go_wp2
            go_roundg (gk - 1)
            case rel => exact ⟨k + 1, v6, ⟨n6, f6, p6, s6, g6, h6, nu6, up6, nd6, dn6, nc6, car6, fl6, dir6, true⟩, A, n, c, rfl, by omega, Lib.hid HB6'.out.symm, Lib.hid (by rw [HLL.out]; exact HNL.out), by omega, Lib.hid HP.out.1, Lib.hid HP.out.2.1, Lib.hid (by rw [HLL.out]; exact HP.out.2.2.1), Lib.hid HP.out.2.2.2⟩
            case measure => omega
      · obtain rfl : k = R := by omega
        have HQ : Hid (b'.quiet = true) := Lib.hid (by rw [HK.out]; exact HRS.out.2.1)
        go_wp2_with fail
        refine (impl_BuildQuiet (v := v') (b := b') HS.out (Nat.le_refl _) HR.out).mono ?_
        rintro e w5 ⟨rfl, hb5⟩
        rw [HQ.out]
        have HB5 := Lib.hid (HB.out.trans (hb5.mono HB.out.size))
        have HRow5 := Lib.hid (HRow.out.below hb5 (Nat.le_refl _))
        clear hb5 c0
        go_wp2
        go_ret
        exact ⟨A, n, c, rfl, by rw [HE.out]; exact ⟨HNL.out, HRow5.out.mono (by omega)⟩, HB5.out⟩

set_option maxHeartbeats 6400000 in
theorem spec_RestVisits {w : World} {B : Nat} {v : Bv} {b : Bld} (hn : b.Small) (hB : B ≤ w.heap.size) (hr : ReadB w B v b) :
    Calls Try.prog 46 #[bval v b] w (VisPost b w) := by
  have HX0 := Lib.hid (Bx.new w (bcells v b) 36)
  have HB0 := Lib.hid ((Below.refl w.heap.size w).alloc (Nat.le_refl _) (.cells (bcells v b) 36))
  have HR0 := Lib.hid (hr.alloc hB (.cells (bcells v b) 36))
  have HSm := Lib.hid hn
  clear hr hn
  unfold VisPost
  unfold bval bcells at *
  go_enter Try.func46, Try.ntmps46
  go_wp2_with fail
  have HBe := Lib.hid (HB0.out.alloc HB0.out.size (.cells #[] 3))
  have HXe := Lib.hid (HX0.out.alloc (.cells #[] 3))
  have HRe := Lib.hid (HR0.out.alloc (Nat.le_trans hB HB0.out.size) (.cells #[] 3))
  have HRowE := Lib.hid (Row.emptyAt (w := w.alloc (.cells #[.slice v.A b.n v.c, .int .i64 b.pos, .int .i64 b.sp, .int .i64 b.gap, .int .i64 b.hold, .slice v.U b.nu v.cu, .slice v.D b.nd v.cd, .slice v.C b.nc v.cc, .int .i64 b.fl, .int .i64 b.dir, .bool b.op] 36)) (g := w.heap.size + 1) (base := w.heap.size + 1) (fun i => ([] : List Int).getD i 0) (by simp) (by simp))
  refine (spec_RestTicks (v := v) (b := b) HSm.out (Nat.le_trans hB HBe.out.size) HRe.out).mono ?_
  rintro e w1 ⟨rfl, hb1⟩
  have HX1 := Lib.hid (HXe.out.below hb1 HXe.out.lt)
  have HB1 := Lib.hid (HBe.out.trans (hb1.mono HBe.out.size))
  have HR1 := Lib.hid (HRe.out.below (hb1.mono (Nat.le_trans hB HBe.out.size)))
  have HRow1 := Lib.hid (HRowE.out.below hb1 (Nat.le_refl _))
  clear hb1 HX0 HB0 HR0 HXe HBe HRe HRowE
  cases hv : b.valid
  · have HE := Lib.hid (visits_no hv)
    rw [restTicks_no hv]
    clear hv
    go_wp2
    go_loopw [3, 5] (fun s3 s5 wr => s3 = .slice (some ⟨w.heap.size + 1, 0, none⟩) 0 0 ∧ s5 = .int .i64 0 ∧ Hid (Row wr (w.heap.size + 1) (some ⟨w.heap.size + 1, 0, none⟩) 0 0 (fun i => ([] : List Int).getD i 0)) ∧ Hid (Below w.heap.size w wr)) (fun _ _ _ => 0)
    case atStart => exact ⟨rfl, rfl, HRow1, HB1⟩
    case round =>
      obtain ⟨rfl, rfl, HRow, HB⟩ := hrel
      go_wp2
      go_ret
      exact ⟨_, 0, 0, rfl, by rw [HE.out]; exact ⟨rfl, HRow.out.mono (by omega)⟩, HB.out⟩
  · have HE := Lib.hid (visits_yes hv)
    have hok := valid_iff.1 hv
    have HOK := Lib.hid hok
    have hrb := (rest_bound hok).2
    rw [restTicks_yes hv]
    clear hv hok
    generalize b.rest = R at *
    have HRB := Lib.hid (HR1.out.more (Nat.le_trans hB HB1.out.size))
    go_wp2
    go_loopw [3, 5] (fun s3 s5 wr => ∃ (k : Nat) (v' : Bv) (b' : Bld) (A : Option Addr) (n c : Nat), s3 = .slice A n c ∧ s5 = .int .i64 k ∧ k ≤ R ∧ Hid (b' = b.after k) ∧ Hid (n = (b.visL k).length) ∧ n ≤ k ∧ Hid (Bx wr w.heap.size (bcells v' b')) ∧ Hid (ReadB wr wr.heap.size v' b') ∧ Hid (Row wr (w.heap.size + 1) A n c (fun i => (b.visL k).getD i 0)) ∧ Hid (Below w.heap.size w wr)) (fun _ s5 _ => R - (intOf s5).toNat)
    case atStart => exact ⟨0, v, b, _, 0, 0, rfl, rfl, by omega, Lib.hid rfl, Lib.hid rfl, by omega, HX1, HRB, HRow1, HB1⟩
    case round =>
      obtain ⟨k, v', b', A, n, c, rfl, rfl, hk, HK, HNL, hnk, HX5, HR5, HRow5, HB5⟩ := hrel
      have HS : Hid b'.Small := Lib.hid (by rw [HK.out]; exact after_small HSm.out k)
      have HT : Hid (b'.ticked false = b.after (k + 1)) := Lib.hid (by rw [HK.out]; exact ticked_after HOK.out k)
      unfold bcells at HX5
      have c0 := HX5.out.cells
      clear HRB HX1 HB1 HR1 HRow1
      by_cases hlt : k < R
      · skip
        go_wp2_with fail
        refine (spec_BuildTick (v := v') (b := b') false HS.out (Nat.le_refl _) HR5.out).mono ?_
        unfold TickPost
        rw [HT.out]
        rintro e w6 ⟨v6, rfl, ho6, hb6⟩
        have HOP : Hid (b'.op = (b.after k).op) := Lib.hid (by rw [HK.out])
        have HV1 := Lib.hid (@visL_yes b k)
        have HV2 := Lib.hid (@visL_no1 b k)
        have HV3 := Lib.hid (@visL_no2 b k)
        rw [← HOP.out] at HV1 HV3
        have HSM6 : Hid (b.after (k + 1)).Small := Lib.hid (after_small HSm.out _)
        generalize hb6' : b.after (k + 1) = b6 at *
        have HB6' := Lib.hid hb6'
        clear hb6' HOP
        obtain ⟨n6, f6, p6, s6, g6, h6, nu6, up6, nd6, dn6, nc6, car6, fl6, dir6, op6⟩ := b6
        have HX6 := Lib.hid ((HX5.out.below hb6 HX5.out.lt).alloc (.cells (bcells v6 ⟨n6, f6, p6, s6, g6, h6, nu6, up6, nd6, dn6, nc6, car6, fl6, dir6, op6⟩) 36))
        have HN6 := Lib.hid (Bx.new w6 (bcells v6 ⟨n6, f6, p6, s6, g6, h6, nu6, up6, nd6, dn6, nc6, car6, fl6, dir6, op6⟩) 36)
        have HB6 := Lib.hid ((HB5.out.trans (hb6.mono HB5.out.size)).alloc (Nat.le_trans HB5.out.size hb6.size) (.cells (bcells v6 ⟨n6, f6, p6, s6, g6, h6, nu6, up6, nd6, dn6, nc6, car6, fl6, dir6, op6⟩) 36))
        have HO6 := Lib.hid (ownB_below ho6 ((Below.refl w6.heap.size w6).alloc (Nat.le_refl _) (.cells (bcells v6 ⟨n6, f6, p6, s6, g6, h6, nu6, up6, nd6, dn6, nc6, car6, fl6, dir6, op6⟩) 36)))
        have HRow6 := Lib.hid ((HRow5.out.below hb6 (Nat.le_refl _)).alloc (.cells (bcells v6 ⟨n6, f6, p6, s6, g6, h6, nu6, up6, nd6, dn6, nc6, car6, fl6, dir6, op6⟩) 36))
        have HPL : Hid (∀ k, (Value.slice A n c).ownBlock = some k → k < wr.heap.size) := Lib.hid (fun k e => (World.ownsRow.lt HRow5.out k e).2)
        have hx5 := HX5.out.lt
        have hs6 := hb6.size
        clear hb6 ho6 c0 HX5 HB5 HR5 HRow5
        simp only [bval, bcells] at *
        have c0 := HX6.out.cells
        have z0 := HX6.out.free
        have c4 := HN6.out.cells
        cases op6
        · have HLL := Lib.hid (HV2.out rfl)
          have HP := Lib.hid (put_next HX6.out HO6.out hx5 HRow6.out HB6.out)
          clear HV1 HV2 HV3
          go_wp2
          go_roundw
          case rel => exact ⟨k + 1, v6, ⟨n6, f6, p6, s6, g6, h6, nu6, up6, nd6, dn6, nc6, car6, fl6, dir6, false⟩, A, n, c, rfl, by go_num, by omega, Lib.hid HB6'.out.symm, Lib.hid (by rw [HLL.out]; exact HNL.out), by omega, Lib.hid HP.out.1, Lib.hid HP.out.2.1, Lib.hid (by rw [HLL.out]; exact HP.out.2.2.1), Lib.hid HP.out.2.2.2⟩
          case measure => simp [intOf]; omega
        · cases hop' : b'.op
          · have HLL := Lib.hid (HV1.out rfl hop')
            clear HV1 HV2 HV3
            go_wp2_with fail
            refine (l27Here_any (v := v6) (b := ⟨n6, f6, p6, s6, g6, h6, nu6, up6, nd6, dn6, nc6, car6, fl6, dir6, true⟩) HSM6.out (Nat.le_refl _) HO6.out.read).mono ?_
            rintro e w7 ⟨rfl, hb7⟩
            have HX7 := Lib.hid (HX6.out.below hb7 HX6.out.lt)
            have HN7 := Lib.hid (HN6.out.below hb7 HN6.out.lt)
            have HB7 := Lib.hid (HB6.out.trans (hb7.mono HB6.out.size))
            have HO7 := Lib.hid (ownB_below HO6.out hb7)
            have HRow7 := Lib.hid (HRow6.out.below hb7 (Nat.le_refl _))
            have hs7 : w6.heap.size + 1 ≤ w7.heap.size := by have := hb7.size; simpa using this
            clear hb7 c0 z0 c4 HX6 HN6 HB6 HO6 HRow6
            generalize hst : Bld.stand ⟨n6, f6, p6, s6, g6, h6, nu6, up6, nd6, dn6, nc6, car6, fl6, dir6, true⟩ = st at *
            go_wp2_with (at_builtin; refine append_int _ rfl _ _ rfl rfl (HRow7.out.alloc _) w7.heap.size st rfl (by simp) (by omega) (by simp; omega) ?_; intro A8 c8 w8 hr8 hg8; have HX8 := Lib.hid ((HX7.out.alloc (.cells #[.int .i64 st] 3)).kept2 hg8 (fun k e => by have := HRow7.out.own k e; omega)); have HN8 := Lib.hid ((HN7.out.alloc (.cells #[.int .i64 st] 3)).kept2 hg8 (fun k e => by have := HPL.out k e; omega)); have HO8 := Lib.hid (ownB_kept (ownB_below HO7.out ((Below.refl w7.heap.size w7).alloc (Nat.le_refl _) (.cells #[.int .i64 st] 3))) HPL.out hg8); have HB8 := Lib.hid ((HB7.out.alloc HB7.out.size (.cells #[.int .i64 st] 3)).grown hg8 (by simp; omega) (fun k e => by have := HRow7.out.own k e; omega)); have HP := Lib.hid (put_next HX8.out HO8.out hx5 hr8 HB8.out); have HR8 := Lib.hid hr8; clear hr8 hg8; have c0 := HX8.out.cells; have z0 := HX8.out.free; have c4 := HN8.out.cells)
            go_roundw
            case rel => exact ⟨k + 1, v6, ⟨n6, f6, p6, s6, g6, h6, nu6, up6, nd6, dn6, nc6, car6, fl6, dir6, true⟩, A8, n + 1, c8, rfl, by go_num, by omega, Lib.hid HB6'.out.symm, Lib.hid (by rw [HLL.out]; simp [HNL.out]), by omega, Lib.hid HP.out.1, Lib.hid HP.out.2.1, Lib.hid (by rw [HLL.out]; exact (RowL.snoc HNL.out HP.out.2.2.1).2), Lib.hid HP.out.2.2.2⟩
            case measure => simp [intOf]; omega
          · have HLL := Lib.hid (HV3.out hop')
            have HP := Lib.hid (put_next HX6.out HO6.out hx5 HRow6.out HB6.out)
            clear HV1 HV2 HV3
            go_wp2
            go_roundw
            case rel => exact ⟨k + 1, v6, ⟨n6, f6, p6, s6, g6, h6, nu6, up6, nd6, dn6, nc6, car6, fl6, dir6, true⟩, A, n, c, rfl, by go_num, by omega, Lib.hid HB6'.out.symm, Lib.hid (by rw [HLL.out]; exact HNL.out), by omega, Lib.hid HP.out.1, Lib.hid HP.out.2.1, Lib.hid (by rw [HLL.out]; exact HP.out.2.2.1), Lib.hid HP.out.2.2.2⟩
            case measure => simp [intOf]; omega
      · obtain rfl : k = R := by omega
        go_wp2
        go_ret
        exact ⟨A, n, c, rfl, by rw [HE.out]; exact ⟨HNL.out, HRow5.out.mono (by omega)⟩, HB5.out⟩
end Go.Proofs.Ytailpiagjemhpaa
