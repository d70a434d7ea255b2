/-
  The contract of alive. No claim stands here.
-/
import Derived.Test.YthkpikkjgggimaaGreatDoorBB
namespace Go.Proofs.YthkpikkjgggimaaGreatDoor
open Go.RowKit
set_option linter.unusedVariables false
set_option linter.unusedSimpArgs false

/-- The heights that alive asks about. -/
def h049 (i : Nat) : Int := if i = 0 then 0 else if i = 1 then 4 else 9
theorem alive_one : floorAtOf h049 3 4 = 1 := by decide
theorem alive_two : floorAtOf h049 0 0 = -1 := by decide
theorem alive_row {w : World} {B : Nat} (hB : w.heap.size < B) : Ints (w.alloc (.cells #[.int .i64 0, .int .i64 4, .int .i64 9] 3)) B (some ⟨w.heap.size, 0, none⟩) 3 h049 := by
  refine fun _ => ⟨w.heap.size, 0, rfl, hB, fun i hi => ?_⟩
  rw [cell_of_row _ w.heap.size (0 + i) #[.int .i64 0, .int .i64 4, .int .i64 9] 3 (0, 0) (by show (w.heap.push _)[w.heap.size]? = _; simp)]
  match i, hi with
  | 0, _ => rfl
  | 1, _ => rfl
  | 2, _ => rfl

theorem alive_any {w : World} : Calls Tryz.prog 14 #[] w fun e w' => e = .returned (.bool true) ∧ Below w.heap.size w w' := by
  have HB := Lib.hid ((Below.refl w.heap.size w).alloc (Nat.le_refl _) (.cells #[.int .i64 0, .int .i64 4, .int .i64 9] 3))
  go_enter Tryz.func14, Tryz.ntmps14
  go_wp2_with fail
  refine (impl_FloorAt _ (by omega) (alive_row (w := w) (Nat.lt_succ_self _))).mono ?_
  rintro e w1 ⟨rfl, j1, rfl⟩
  rw [alive_one]
  go_wp2_with fail
  refine (impl_FloorAt (n := 0) (f := h049) (B := 0) 0 (by omega) Ints.zero).mono ?_
  rintro e w2 ⟨rfl, j2, rfl⟩
  rw [alive_two]
  go_wp2
  go_ret
  exact ⟨rfl, below_drewN HB.out _⟩
end Go.Proofs.YthkpikkjgggimaaGreatDoor
