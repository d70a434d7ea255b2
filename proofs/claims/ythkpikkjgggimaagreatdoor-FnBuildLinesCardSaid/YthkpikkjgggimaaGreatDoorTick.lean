/-
  A building behind a tick, in plain Lean. No claim stands here.
-/
import Derived.Test.YthkpikkjgggimaaGreatDoorNext4
import Derived.Test.YthkpikkjgggimaaGreatDoorStep2
import Derived.Test.YthkpikkjgggimaaGreatDoorAsk2
namespace Go.Proofs.YthkpikkjgggimaaGreatDoor
set_option linter.unusedVariables false
set_option linter.unusedSimpArgs false

theorem stand_bd {f : Nat → Int} {n : Nat} {pos sp : Int} (hn : 1 ≤ n) : -1 ≤ standF f n pos sp ∧ standF f n pos sp < n := by
  unfold standF floorAtOf
  split
  · split
    · rename_i h; omega
    · omega
  · omega
theorem stand_at {f : Nat → Int} {n : Nat} {pos sp : Int} (h : 0 ≤ standF f n pos sp) : sp = 0 ∧ f (standF f n pos sp).toNat = pos := by
  unfold standF floorAtOf at *
  split at h
  · rename_i h0
    split at h
    · rename_i h1
      refine ⟨h0, ?_⟩
      rw [if_pos h0, if_pos h1, Int.toNat_natCast]
      have := (firstP_spec (heightP f pos) n).2.2 h1.2
      simpa [heightP] using this
    · omega
  · omega
theorem height_in {f : Nat → Int} {n k : Nat} (h : floorsB f n = true) (hk : k < n) : inB (f k) 0 60 = true := by
  rw [floorsB_spec] at h
  simp only [Bool.and_eq_true, allB_iff] at h
  have := h.1.1.1 k hk
  simp only [floorQ, Bool.and_eq_true] at this
  exact this.1

def Bld.open (b : Bld) (bl : Bool) : Bld := { b with gap := doorG b.gap b.hold b.op bl, hold := doorH b.gap b.hold b.op bl, op := b.op && decide (doorG b.gap b.hold b.op bl < 4) }
def Bld.serve (b : Bld) : Bld := { b with up := serveUp b.up b.fl b.dir, dn := serveDn b.dn b.fl b.dir, car := serveCar b.car b.fl, op := true, fl := -1 }
def Bld.move (b : Bld) : Bld := { b with pos := stepAt b.pos b.sp (b.f b.fl.toNat), sp := stepSp b.pos b.sp (b.f b.fl.toNat) }
def Bld.nextF (b : Bld) : Int := nextFl b.n b.up b.dn b.car b.stand b.dir
def Bld.nextD (b : Bld) : Int := nextDir b.n b.up b.dn b.car b.stand b.dir
def Bld.look (b : Bld) : Bld := if 0 ≤ b.nextF then { b with fl := b.nextF, dir := b.nextD } else b
/-- A valid building behind a tick. -/
def Bld.tick (b : Bld) (bl : Bool) : Bld :=
  if 0 < b.gap ∨ b.op = true then b.open bl else if 0 ≤ b.fl then (if b.stand = b.fl then b.serve else b.move) else b.look
def Bld.ticked (b : Bld) (bl : Bool) : Bld := if b.valid = true then b.tick bl else Bld.none
theorem tick_open {b : Bld} {bl : Bool} (h : 0 < b.gap ∨ b.op = true) : b.tick bl = b.open bl := by simp only [Bld.tick, if_pos h]
theorem tick_serve {b : Bld} {bl : Bool} (h : ¬ (0 < b.gap ∨ b.op = true)) (h1 : 0 ≤ b.fl) (h2 : b.stand = b.fl) : b.tick bl = b.serve := by simp only [Bld.tick, if_neg h, if_pos h1, if_pos h2]
theorem tick_move {b : Bld} {bl : Bool} (h : ¬ (0 < b.gap ∨ b.op = true)) (h1 : 0 ≤ b.fl) (h2 : ¬ b.stand = b.fl) : b.tick bl = b.move := by simp only [Bld.tick, if_neg h, if_pos h1, if_neg h2]
theorem tick_look {b : Bld} {bl : Bool} (h : ¬ (0 < b.gap ∨ b.op = true)) (h1 : ¬ 0 ≤ b.fl) : b.tick bl = b.look := by simp only [Bld.tick, if_neg h, if_neg h1]

theorem open_ok {b : Bld} (h : b.Ok) (bl : Bool) (hg : 0 < b.gap ∨ b.op = true) : (b.open bl).Ok := by
  have hfl : b.fl = -1 ∧ 0 ≤ b.stand := by
    have hd := doorB_iff.1 h.door
    rcases h.halt with h1 | ⟨h1, h2, h3⟩
    · exact h1
    · rw [h3] at hg; rcases hg with hg | hg
      · omega
      · cases hg
  exact ⟨h.floors, h.motion, doorStep_valid h.door, .inr hfl.2, h.calls, h.same, h.way, .inl hfl⟩
theorem serve_ok {b : Bld} (h : b.Ok) (hg : ¬ (0 < b.gap ∨ b.op = true)) (h1 : 0 ≤ b.fl) (h2 : b.stand = b.fl) : b.serve.Ok := by
  obtain ⟨e1, e2, e3, e4, e5⟩ := h.sizes
  have hc := h.calls
  rw [e1, e2, e3] at hc
  refine ⟨h.floors, h.motion, h.door, h.shut, ?_, h.same, h.way, .inl ⟨rfl, ?_⟩⟩
  · show callsB b.nu b.nd b.nc _ _ = true
    rw [e1, e2, e3]
    exact serve_calls hc _ _
  · show 0 ≤ b.stand
    omega
theorem move_ok {b : Bld} (h : b.Ok) (hg : ¬ (0 < b.gap ∨ b.op = true)) (h1 : 0 ≤ b.fl) : b.move.Ok := by
  have hd := doorB_iff.1 h.door
  have hgap : b.gap = 0 := by omega
  rcases h.halt with ⟨h2, _⟩ | ⟨h2, h3, h4⟩
  · omega
  · have hk : b.fl.toNat < b.n := by omega
    exact ⟨h.floors, step_valid h.motion (height_in h.floors hk), h.door, .inl hgap, h.calls, h.same, h.way, .inr ⟨h2, h3, h4⟩⟩
theorem look_ok {b : Bld} (h : b.Ok) (hg : ¬ (0 < b.gap ∨ b.op = true)) (h1 : ¬ 0 ≤ b.fl) : b.look.Ok := by
  unfold Bld.look
  split
  · rename_i hn
    have hd := doorB_iff.1 h.door
    have hgap : b.gap = 0 := by omega
    have hop : b.op = false := by cases hq : b.op <;> simp [hq] at hg ⊢
    have hst : 0 ≤ b.stand := by rcases h.halt with ⟨_, h2⟩ | ⟨h2, _⟩ <;> omega
    obtain ⟨_, _, _, hn1, _⟩ := h.sizes
    have hb := stand_bd (f := b.f) (n := b.n) (pos := b.pos) (sp := b.sp) hn1
    obtain ⟨a1, a2, _⟩ := next_yes (n := b.n) (up := b.up) (dn := b.dn) (car := b.car) hst hb.2 h.way hn
    exact ⟨h.floors, h.motion, h.door, h.shut, h.calls, h.same, a2, .inr ⟨⟨hn, a1⟩, hgap, hop⟩⟩
  · exact h
theorem tick_ok {b : Bld} (h : b.Ok) (bl : Bool) : (b.tick bl).Ok := by
  by_cases hg : 0 < b.gap ∨ b.op = true
  · rw [tick_open hg]; exact open_ok h bl hg
  · by_cases h1 : 0 ≤ b.fl
    · by_cases h2 : b.stand = b.fl
      · rw [tick_serve hg h1 h2]; exact serve_ok h hg h1 h2
      · rw [tick_move hg h1 h2]; exact move_ok h hg h1
    · rw [tick_look hg h1]; exact look_ok h hg h1
end Go.Proofs.YthkpikkjgggimaaGreatDoor
