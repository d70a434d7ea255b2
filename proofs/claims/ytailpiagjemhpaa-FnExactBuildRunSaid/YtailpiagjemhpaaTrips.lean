/-
  The contracts of the small functions on numbers: l1In, roomValid, roundedUp, tripsValid, TripsFor. No claim stands here.
-/
import Derived.Test.YtailpiagjemhpaaBase
namespace Go.Proofs.Ytailpiagjemhpaa
open Go.RowKit
set_option linter.unusedVariables false

/-- spec.l1In. -/
theorem l1In_any (n lo hi : Int) (w : World) : Calls Try.prog 67 #[.int .i64 n, .int .i64 lo, .int .i64 hi] w fun e w' => e = .returned (.bool (inB n lo hi)) ∧ w = w' := by
  by_cases h1 : lo ≤ n
  · by_cases h2 : n ≤ hi
    all_goals
      go_enter Try.func67, Try.ntmps67
      go_wp2
      go_ret
      exact ⟨ret_bool (by rw [Bool.eq_iff_iff, inB_iff]; simp; omega), rfl⟩
  · go_enter Try.func67, Try.ntmps67
    go_wp2
    go_ret
    exact ⟨ret_bool (by rw [Bool.eq_iff_iff, inB_iff]; simp; omega), rfl⟩

/-- What TripsFor returns. -/
def tripsFor (p r : Int) : Int := if (inB p 0 30 && inB r 1 8) = true then roundUp p r else -1
theorem tripsFor_yes {p r : Int} (h : inB p 0 30 = true) (h' : inB r 1 8 = true) : tripsFor p r = roundUp p r := by simp [tripsFor, h, h']
theorem tripsFor_no {p r : Int} (h : inB p 0 30 = false ∨ inB r 1 8 = false) : tripsFor p r = -1 := by
  rcases h with h | h <;> simp [tripsFor, h]

end Go.Proofs.Ytailpiagjemhpaa
