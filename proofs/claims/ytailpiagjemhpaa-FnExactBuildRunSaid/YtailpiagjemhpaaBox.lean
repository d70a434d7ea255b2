/-
  Boxes of structs: what their cells hold behind calls. No claim stands here.
-/
import Derived.Test.YtailpiagjemhpaaBools
import Derived.Test.YtailpiagjemhpaaFloors
namespace Go.Proofs.Ytailpiagjemhpaa
open Go.RowKit
set_option linter.unusedVariables false
set_option linter.unusedSimpArgs false

/-- Block g is a box of the cells xs, which may be written. -/
def Bx (w : World) (g : Nat) (xs : Array Value) : Prop := ∃ T, w.heap[g]? = some (.cells xs T (0, 0))
theorem Bx.cells {w : World} {g : Nat} {xs : Array Value} (h : Bx w g xs) : ∀ o, w.cell? ⟨g, o, none⟩ = xs[o]? := by
  obtain ⟨T, h⟩ := h
  intro o
  exact cell_of_row w g o xs T (0, 0) h
theorem Bx.free {w : World} {g : Nat} {xs : Array Value} (h : Bx w g xs) : ∀ o, w.frozen? ⟨g, o, none⟩ = false := by
  obtain ⟨T, h⟩ := h
  intro o
  simp [World.frozen?, h]
theorem Bx.lt {w : World} {g : Nat} {xs : Array Value} (h : Bx w g xs) : g < w.heap.size := by
  obtain ⟨T, h⟩ := h
  rcases Nat.lt_or_ge g w.heap.size with hlt | hge
  · exact hlt
  · rw [Array.getElem?_eq_none hge] at h; cases h
theorem Bx.new (w : World) (xs : Array Value) (T : TypeId) : Bx (w.alloc (.cells xs T)) w.heap.size xs := ⟨T, by show (w.heap.push _)[w.heap.size]? = _; simp⟩
theorem Bx.below {w w' : World} {B g : Nat} {xs : Array Value} (h : Bx w g xs) (hb : Below B w w') (hB : g < B) : Bx w' g xs := by
  obtain ⟨T, h⟩ := h
  exact ⟨T, (hb.block g hB).trans h⟩
theorem Bx.drewN {w : World} {g : Nat} {xs : Array Value} (h : Bx w g xs) (k : Nat) : Bx (w.drewN k) g xs := h
theorem Bx.alloc {w : World} {g : Nat} {xs : Array Value} (h : Bx w g xs) (o : Obj) : Bx (w.alloc o) g xs := h.below ((Below.refl w.heap.size w).alloc (Nat.le_refl _) o) h.lt
theorem Bx.set {w : World} {g : Nat} {xs : Array Value} (h : Bx w g xs) (i : Nat) (v : Value) : Bx (w.setCell ⟨g, i, none⟩ v) g (xs.setIfInBounds i v) := by
  obtain ⟨T, h⟩ := h
  refine ⟨T, ?_⟩
  simp [World.setCell, Array.getElem?_modify, h]
theorem Bx.far {w : World} {g : Nat} {xs : Array Value} (h : Bx w g xs) (p : Addr) (v : Value) (hp : p.block ≠ g) : Bx (w.setCell p v) g xs := by
  obtain ⟨T, h⟩ := h
  exact ⟨T, (Below.heap_setCell _ _ _ _ (by intro e; exact hp e.symm)).trans h⟩
/-- A call of a function that makes a box of its argument and leaves all else: what was below it is as it was. -/
theorem boxed {w w' : World} {o : Obj} (h : Below (w.alloc o).heap.size (w.alloc o) w') : Below w.heap.size w w' :=
  ((Below.refl w.heap.size w).alloc (Nat.le_refl _) o).trans (h.mono (by simp))
theorem box_kept {w w' : World} {xs : Array Value} {T : TypeId} (h : Below (w.alloc (.cells xs T)).heap.size (w.alloc (.cells xs T)) w') : Bx w' w.heap.size xs :=
  (Bx.new w xs T).below h (by simp)
theorem box_size {w w' : World} {o : Obj} (h : Below (w.alloc o).heap.size (w.alloc o) w') : w.heap.size < w'.heap.size := by
  have := h.size; simp at this; omega

theorem boxes2 {w w' : World} {P R : Array Value} {T T' : TypeId} (h : Below ((w.alloc (.cells P T)).alloc (.cells R T')).heap.size ((w.alloc (.cells P T)).alloc (.cells R T')) w') :
    Bx w' w.heap.size P ∧ Bx w' (w.heap.size + 1) R ∧ Below w.heap.size w w' ∧ w.heap.size + 2 ≤ w'.heap.size := by
  have h1 := Bx.new (w.alloc (.cells P T)) R T'
  rw [show (w.alloc (.cells P T)).heap.size = w.heap.size + 1 by simp] at h1
  refine ⟨((Bx.new w P T).alloc _).below h (by simp <;> omega), h1.below h (by simp), ?_, by have := h.size; simp at this; omega⟩
  exact ((Below.refl w.heap.size w).alloc (Nat.le_refl _) _).alloc (by simp) _ |>.trans (h.mono (by simp <;> omega))
theorem boxes3 {w w' : World} {P R O : Array Value} {T T' T2 : TypeId} (h : Below (((w.alloc (.cells P T)).alloc (.cells R T')).alloc (.cells O T2)).heap.size (((w.alloc (.cells P T)).alloc (.cells R T')).alloc (.cells O T2)) w') :
    Bx w' w.heap.size P ∧ Bx w' (w.heap.size + 1) R ∧ Bx w' (w.heap.size + 1 + 1) O ∧ Below w.heap.size w w' ∧ w.heap.size + 3 ≤ w'.heap.size := by
  have h1 := Bx.new (w.alloc (.cells P T)) R T'
  rw [show (w.alloc (.cells P T)).heap.size = w.heap.size + 1 by simp] at h1
  have h2 := Bx.new ((w.alloc (.cells P T)).alloc (.cells R T')) O T2
  rw [show ((w.alloc (.cells P T)).alloc (.cells R T')).heap.size = w.heap.size + 2 by simp] at h2
  refine ⟨(((Bx.new w P T).alloc _).alloc _).below h (by simp <;> omega), (h1.alloc _).below h (by simp <;> omega), h2.below h (by simp), ?_, by have := h.size; simp at this; omega⟩
  exact (((Below.refl w.heap.size w).alloc (Nat.le_refl _) _).alloc (by simp) _).alloc (by simp <;> omega) _ |>.trans (h.mono (by simp <;> omega))

theorem stepValid_any (a : Int) (w : World) : Calls Try.prog 111 #[.int .i64 a] w fun e w' => e = .returned (.bool (inB a 0 60)) ∧ w = w' := by
  by_cases h1 : a < 0
  · go_enter Try.func111, Try.ntmps111
    go_wp2
    go_ret
    exact ⟨ret_bool (by rw [Bool.eq_iff_iff, inB_iff]; simp; omega), rfl⟩
  · by_cases h2 : a ≤ 60
    all_goals
      go_enter Try.func111, Try.ntmps111
      go_wp2
      go_ret
      exact ⟨ret_bool (by rw [Bool.eq_iff_iff, inB_iff]; simp; omega), rfl⟩
theorem isFloor_any (a : Int) (n : Nat) (w : World) : Calls Try.prog 64 #[.int .i64 a, .int .i64 n] w fun e w' => e = .returned (.bool (inB a 0 ((n : Int) - 1))) ∧ w = w' := by
  by_cases h1 : a < 0
  · go_enter Try.func64, Try.ntmps64
    go_wp2
    go_ret
    exact ⟨ret_bool (by rw [Bool.eq_iff_iff, inB_iff]; simp; omega), rfl⟩
  · by_cases h2 : a < (n : Int)
    all_goals
      go_enter Try.func64, Try.ntmps64
      go_wp2
      go_ret
      exact ⟨ret_bool (by rw [Bool.eq_iff_iff, inB_iff]; simp; omega), rfl⟩

theorem impl_MotionValid (a s : Int) (w : World) : Calls Try.prog 70 #[.agg #[.int .i64 a, .int .i64 s]] w fun e w' => e = .returned (.bool (motionB a s)) ∧ Below w.heap.size w w' := by
  have HB := Lib.hid ((Below.refl w.heap.size w).alloc (Nat.le_refl _) (.cells #[.int .i64 a, .int .i64 s] 25))
  cases h : inB a 0 60
  · go_enter Try.func70, Try.ntmps70
    go_wp2_with fail
    refine (stepValid_any a _).mono ?_
    rintro e w1 ⟨rfl, rfl⟩
    go_wp2
    go_ret
    exact ⟨ret_bool (by simp [motionB, h]), HB.out⟩
  · by_cases h1 : -5 ≤ s
    · by_cases h2 : s ≤ 5
      all_goals
        go_enter Try.func70, Try.ntmps70
        go_wp2_with fail
        refine (stepValid_any a _).mono ?_
        rintro e w1 ⟨rfl, rfl⟩
        go_wp2
        go_ret
        exact ⟨ret_bool (by rw [Bool.eq_iff_iff]; simp [motionB, h, inB_iff]; omega), HB.out⟩
    · go_enter Try.func70, Try.ntmps70
      go_wp2_with fail
      refine (stepValid_any a _).mono ?_
      rintro e w1 ⟨rfl, rfl⟩
      go_wp2
      go_ret
      exact ⟨ret_bool (by rw [Bool.eq_iff_iff]; simp [motionB, h, inB_iff]; omega), HB.out⟩

theorem impl_DoorValid (g h : Int) (w : World) : Calls Try.prog 71 #[.agg #[.int .i64 g, .int .i64 h]] w fun e w' => e = .returned (.bool (doorB g h)) ∧ Below w.heap.size w w' := by
  have HB := Lib.hid ((Below.refl w.heap.size w).alloc (Nat.le_refl _) (.cells #[.int .i64 g, .int .i64 h] 27))
  by_cases h1 : g < 0
  · go_enter Try.func71, Try.ntmps71
    go_wp2
    go_ret
    exact ⟨ret_bool (by rw [Bool.eq_iff_iff, doorB_iff]; simp; omega), HB.out⟩
  · by_cases h2 : 4 < g
    · go_enter Try.func71, Try.ntmps71
      go_wp2
      go_ret
      exact ⟨ret_bool (by rw [Bool.eq_iff_iff, doorB_iff]; simp; omega), HB.out⟩
    · by_cases h3 : h < 0
      · go_enter Try.func71, Try.ntmps71
        go_wp2
        go_ret
        exact ⟨ret_bool (by rw [Bool.eq_iff_iff, doorB_iff]; simp; omega), HB.out⟩
      · by_cases h4 : 3 < h
        · go_enter Try.func71, Try.ntmps71
          go_wp2
          go_ret
          exact ⟨ret_bool (by rw [Bool.eq_iff_iff, doorB_iff]; simp; omega), HB.out⟩
        · cases h5 : (h == 0)
          all_goals
            go_enter Try.func71, Try.ntmps71
            go_wp2
            go_ret
            exact ⟨ret_bool (by rw [Bool.eq_iff_iff, doorB_iff]; simp at h5 ⊢; omega), HB.out⟩
end Go.Proofs.Ytailpiagjemhpaa
