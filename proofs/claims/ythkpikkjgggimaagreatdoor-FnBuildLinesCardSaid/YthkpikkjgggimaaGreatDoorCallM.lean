/-
  What CallSet and BuildCall answer, in plain Lean. No claim stands here.
-/
import Derived.Test.YthkpikkjgggimaaGreatDoorMany
namespace Go.Proofs.YthkpikkjgggimaaGreatDoor
open Go.RowKit
set_option linter.unusedVariables false
set_option linter.unusedSimpArgs false

def setUp (up : Nat → Bool) (kind fl : Int) (to : Bool) : Nat → Bool := if kind = 0 then updB up fl.toNat to else up
def setDn (dn : Nat → Bool) (kind fl : Int) (to : Bool) : Nat → Bool := if kind = 1 then updB dn fl.toNat to else dn
def setCar (car : Nat → Bool) (kind fl : Int) (to : Bool) : Nat → Bool := if kind = 2 then updB car fl.toNat to else car
/-- A call of a kind at a floor can be set. -/
def setOk (n : Nat) (up dn : Nat → Bool) (kind fl : Int) (to : Bool) : Bool :=
  inB kind 0 2 && inB fl 0 ((n : Int) - 1) && (!(setUp up kind fl to (n - 1)) && !(setDn dn kind fl to 0))
theorem callsB_set {n : Nat} {up dn : Nat → Bool} (h : callsB n n n up dn = true) {kind fl : Int} {to : Bool} :
    callsB n n n (setUp up kind fl to) (setDn dn kind fl to) = (!(setUp up kind fl to (n - 1)) && !(setDn dn kind fl to 0)) := by
  obtain ⟨h1, h2, _⟩ := callsB_iff.1 h
  simp [callsB, h1, h2]
/-- The calls after CallSet. -/
def askUp (n : Nat) (up dn : Nat → Bool) (kind fl : Int) (to : Bool) : Nat → Bool := if setOk n up dn kind fl to = true then setUp up kind fl to else up
def askDn (n : Nat) (up dn : Nat → Bool) (kind fl : Int) (to : Bool) : Nat → Bool := if setOk n up dn kind fl to = true then setDn dn kind fl to else dn
def askCar (n : Nat) (up dn car : Nat → Bool) (kind fl : Int) (to : Bool) : Nat → Bool := if setOk n up dn kind fl to = true then setCar car kind fl to else car
def Bld.askOk (b : Bld) (kind fl : Int) : Bool := setOk b.n b.up b.dn kind fl true
def Bld.ask (b : Bld) (kind fl : Int) : Bld :=
  { b with up := askUp b.n b.up b.dn kind fl true, dn := askDn b.n b.up b.dn kind fl true, car := askCar b.n b.up b.dn b.car kind fl true }
theorem ask_calls {n : Nat} {up dn : Nat → Bool} (h : callsB n n n up dn = true) (kind fl : Int) (to : Bool) : callsB n n n (askUp n up dn kind fl to) (askDn n up dn kind fl to) = true := by
  unfold askUp askDn
  by_cases e : setOk n up dn kind fl to = true
  · rw [if_pos e, if_pos e, callsB_set h]
    simp only [setOk, Bool.and_eq_true] at e ⊢
    exact e.2
  · rw [if_neg e, if_neg e]; exact h
theorem Bld.Ok.sizes {b : Bld} (h : b.Ok) : b.nu = b.n ∧ b.nd = b.n ∧ b.nc = b.n ∧ 1 ≤ b.n ∧ b.n ≤ 8 := by
  obtain ⟨h1, h2, h3, h4, _⟩ := callsB_iff.1 h.calls
  have := h.same
  omega
theorem Bld.ask_valid {b : Bld} (h : b.Ok) (kind fl : Int) : (b.ask kind fl).Ok := by
  obtain ⟨e1, e2, e3, e4, e5⟩ := h.sizes
  refine ⟨h.floors, h.motion, h.door, h.shut, ?_, h.same, h.way, h.halt⟩
  have hc := h.calls
  rw [e1, e2, e3] at hc
  show callsB b.nu b.nd b.nc _ _ = true
  rw [e1, e2, e3]
  exact ask_calls hc kind fl true
end Go.Proofs.YthkpikkjgggimaaGreatDoor
