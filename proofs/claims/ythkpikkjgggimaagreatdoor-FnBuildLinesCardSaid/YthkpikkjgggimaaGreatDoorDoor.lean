/-
  The contracts of DoorStep, in the program and in the reference. No claim stands here.
-/
import Derived.Test.YthkpikkjgggimaaGreatDoorSetI
namespace Go.Proofs.YthkpikkjgggimaaGreatDoor
open Go.RowKit
set_option linter.unusedVariables false
set_option linter.unusedSimpArgs false

theorem below_set {B : Nat} {w W : World} {p : Addr} {v : Value} (hp : B ≤ p.block) (h : Below B w W) : Below B w (W.setCell p v) := h.setCell hp v
theorem below_new {B : Nat} {w W : World} {o : Obj} (hB : B ≤ W.heap.size) (h : Below B w W) : Below B w (W.alloc o) := h.alloc hB o

/-! ### the door behind a tick -/
def wide (g : Int) (ask bl : Bool) : Bool := ask || (decide (0 < g) && bl)
def doorG (g h : Int) (ask bl : Bool) : Int := if wide g ask bl = true then (if g < 4 then g + 1 else 4) else if 0 < h then g else if 0 < g then g - 1 else 0
def doorH (g h : Int) (ask bl : Bool) : Int := if wide g ask bl = true then (if 3 ≤ g then 3 else 0) else if 0 < h then h - 1 else 0
theorem doors {g h : Int} (hv : doorB g h = true) : (g = 0 ∧ h = 0) ∨ (g = 1 ∧ h = 0) ∨ (g = 2 ∧ h = 0) ∨ (g = 3 ∧ h = 0) ∨ (g = 4 ∧ h = 0) ∨ (g = 4 ∧ h = 1) ∨ (g = 4 ∧ h = 2) ∨ (g = 4 ∧ h = 3) := by
  have := doorB_iff.1 hv; omega
theorem doorStep_valid {g h : Int} {ask bl : Bool} (hv : doorB g h = true) : doorB (doorG g h ask bl) (doorH g h ask bl) = true := by
  rcases doors hv with ⟨rfl, rfl⟩ | ⟨rfl, rfl⟩ | ⟨rfl, rfl⟩ | ⟨rfl, rfl⟩ | ⟨rfl, rfl⟩ | ⟨rfl, rfl⟩ | ⟨rfl, rfl⟩ | ⟨rfl, rfl⟩ <;> cases ask <;> cases bl <;> decide

set_option maxHeartbeats 6400000 in
theorem impl_DoorStep {g h : Int} (ask bl : Bool) (hv : doorB g h = true) (w : World) :
    Calls Tryz.prog 93 #[.agg #[.int .i64 g, .int .i64 h], .bool ask, .bool bl] w fun e w' => e = .returned (.agg #[.int .i64 (doorG g h ask bl), .int .i64 (doorH g h ask bl)]) ∧ Below w.heap.size w w' := by
  rcases doors hv with ⟨rfl, rfl⟩ | ⟨rfl, rfl⟩ | ⟨rfl, rfl⟩ | ⟨rfl, rfl⟩ | ⟨rfl, rfl⟩ | ⟨rfl, rfl⟩ | ⟨rfl, rfl⟩ | ⟨rfl, rfl⟩ <;> cases ask <;> cases bl
  all_goals
    have HV := Lib.hid hv
    clear hv
    go_enter Tryz.func93, Tryz.ntmps93
    go_wp2_with fail
    refine (impl_DoorValid _ _ _).mono ?_
    rintro e w1 ⟨rfl, hb1⟩
    rw [HV.out]
    obtain ⟨x, y, hbb, hs1⟩ := boxes2' hb1
    have HB1 := Lib.hid hbb
    have c0 := x.cells
    have z0 := x.free
    have c1 := y.cells
    have z1 := y.free
    clear x y hbb hb1 HV
    go_wp2
    refine bodyPost_ret (v := .agg #[.int .i64 _, .int .i64 _]) (by simp [results, Tryz.results93, go_sem, c0, c1] <;> exact ⟨rfl, rfl⟩) rfl ⟨rfl, ?_⟩
    repeat (refine below_set (by simp <;> omega) ?_)
    exact HB1.out
set_option maxHeartbeats 6400000 in
theorem spec_DoorStep {g h : Int} (ask bl : Bool) (hv : doorB g h = true) (w : World) :
    Calls Tryz.prog 104 #[.agg #[.int .i64 g, .int .i64 h], .bool ask, .bool bl] w fun e w' => e = .returned (.agg #[.int .i64 (doorG g h ask bl), .int .i64 (doorH g h ask bl)]) ∧ Below w.heap.size w w' := by
  rcases doors hv with ⟨rfl, rfl⟩ | ⟨rfl, rfl⟩ | ⟨rfl, rfl⟩ | ⟨rfl, rfl⟩ | ⟨rfl, rfl⟩ | ⟨rfl, rfl⟩ | ⟨rfl, rfl⟩ | ⟨rfl, rfl⟩ <;> cases ask <;> cases bl
  all_goals
    have HV := Lib.hid hv
    clear hv
    go_enter Tryz.func104, Tryz.ntmps104
    go_wp2_with fail
    refine (spec_DoorValid _ _ _).mono ?_
    rintro e w1 ⟨rfl, hb1⟩
    rw [HV.out]
    obtain ⟨x, y, hbb, hs1⟩ := boxes2' hb1
    have HB1 := Lib.hid hbb
    have c0 := x.cells
    have z0 := x.free
    have c1 := y.cells
    have z1 := y.free
    clear x y hbb hb1 HV
    go_wp2
    refine bodyPost_ret (v := .agg #[.int .i64 _, .int .i64 _]) (by simp [results, Tryz.results104, go_sem, c0, c1] <;> exact ⟨rfl, rfl⟩) rfl ⟨rfl, ?_⟩
    repeat (refine below_set (by simp <;> omega) ?_)
    exact HB1.out
end Go.Proofs.YthkpikkjgggimaaGreatDoor
