/-
  The contracts of the sizes and of the equality of buildings. No claim stands here.
-/
import Derived.Test.YtnbjibkbjdbadaaBD
namespace Go.Proofs.Ytnbjibkbjdbadaa
open Go.RowKit
set_option linter.unusedVariables false
set_option linter.unusedSimpArgs false

def szOf (l n : Int) : Int := if l - n < 0 then -1 else l - n
/-- What the size of a building says: it is less than 0, or no slice is long. -/
def SzPost (b : Bld) (w : World) (e : Ending) (w' : World) : Prop :=
  ∃ x : Int, e = .returned (.int .i64 x) ∧ (x < 0 ∨ (0 ≤ x ∧ b.n ≤ 1048576 ∧ b.nu ≤ 1048576 ∧ b.nd ≤ 1048576 ∧ b.nc ≤ 1048576)) ∧ Below w.heap.size w w'
def SzCalls (l : Int) (nu nd nc : Nat) (w : World) (e : Ending) (w' : World) : Prop :=
  ∃ x : Int, e = .returned (.int .i64 x) ∧ (x < 0 ∨ (0 ≤ x ∧ x ≤ l ∧ nu ≤ 1048576 ∧ nd ≤ 1048576 ∧ nc ≤ 1048576)) ∧ Below w.heap.size w w'

theorem sz_cases (l : Int) (n : Nat) (h0 : 0 ≤ l) : (szOf l n = -1) ∨ (0 ≤ szOf l n ∧ szOf l n ≤ l ∧ n ≤ l) := by
  unfold szOf; split <;> omega

/-! ### equality of equal buildings -/
/-- Two boxes behind a call. -/
structure Fr2 (w W : World) (P R : Array Value) : Prop where
  x0 : Bx W w.heap.size P
  x1 : Bx W (w.heap.size + 1) R
  b : Below w.heap.size w W
section
variable {w W W' : World} {P R : Array Value}
theorem Fr2.start {T T' : TypeId} : Fr2 w ((w.alloc (.cells P T)).alloc (.cells R T')) P R := by
  obtain ⟨a, b, c, _⟩ := boxes2 (Below.refl ((w.alloc (.cells P T)).alloc (.cells R T')).heap.size ((w.alloc (.cells P T)).alloc (.cells R T')))
  exact ⟨a, b, c⟩
theorem Fr2.call (F : Fr2 w W P R) (hb : Below W.heap.size W W') : Fr2 w W' P R :=
  ⟨F.x0.below hb F.x0.lt, F.x1.below hb F.x1.lt, F.b.trans (hb.mono F.b.size)⟩
theorem Fr2.drewed (F : Fr2 w W P R) (hd : Drew W W') : Fr2 w W' P R := by
  obtain ⟨m, rfl⟩ := hd
  exact ⟨F.x0.drewN m, F.x1.drewN m, below_drewN F.b m⟩
end

theorem eqBb_refl' (f : Nat → Bool) (n : Nat) : eqBb f n f n = true := eqBb_iff.2 ⟨rfl, fun _ _ => rfl⟩

end Go.Proofs.Ytnbjibkbjdbadaa
