/-
  The contracts of spec.LiftValid, l27Here and BuildValid. No claim stands here.
-/
import Derived.Test.YtailpiagjemhpaaValid
namespace Go.Proofs.Ytailpiagjemhpaa
open Go.RowKit
set_option linter.unusedVariables false
set_option linter.unusedSimpArgs false

theorem below_drew {B : Nat} {a w w' : World} (h : Below B a w) (hd : Drew w w') : Below B a w' := by
  obtain ⟨m, rfl⟩ := hd
  exact below_drewN h m
theorem Bx.drewed {w w' : World} {g : Nat} {xs : Array Value} (h : Bx w g xs) (hd : Drew w w') : Bx w' g xs := by
  obtain ⟨m, rfl⟩ := hd
  exact h
theorem Ints.drewed {w w' : World} {B : Nat} {A : Option Addr} {n : Nat} {f : Nat → Int} (h : Ints w B A n f) (hd : Drew w w') : Ints w' B A n f := by
  obtain ⟨m, rfl⟩ := hd
  exact h.drewN m

set_option maxHeartbeats 1600000 in
theorem spec_LiftValid {w : World} {B : Nat} {A : Option Addr} {n c : Nat} {f : Nat → Int} (pos sp gap hold : Int) (hn : n ≤ 9223372036854775806) (hB : B ≤ w.heap.size) (hs : Ints w B A n f) :
    Calls Try.prog 65 #[.slice A n c, .agg #[.int .i64 pos, .int .i64 sp, .int .i64 gap, .int .i64 hold]] w fun e w' => e = .returned (.bool (liftB f n pos sp gap hold)) ∧ Below w.heap.size w w' := by
  have HX0 := Lib.hid (Bx.new w #[.int .i64 pos, .int .i64 sp, .int .i64 gap, .int .i64 hold] 29)
  have HB0 := Lib.hid ((Below.refl w.heap.size w).alloc (Nat.le_refl _) (.cells #[.int .i64 pos, .int .i64 sp, .int .i64 gap, .int .i64 hold] 29))
  have HS0 := Lib.hid (hs.alloc hB (.cells #[.int .i64 pos, .int .i64 sp, .int .i64 gap, .int .i64 hold] 29))
  have key : ∃ (st : Bool), Hid (st = decide (0 ≤ standF f n pos sp)) ∧ ((sp == 0) = true ∧ Hid (floorAtOf f n pos = standF f n pos sp) ∨ (sp == 0) = false ∧ st = false) := by
    refine ⟨_, Lib.hid rfl, ?_⟩
    by_cases h : sp = 0
    · exact .inl ⟨by simp [h], Lib.hid (by simp [standF, h])⟩
    · exact .inr ⟨by simp [h], by simp [standF, h]⟩
  obtain ⟨st, hst, hk⟩ := key
  clear hs
  rcases hk with ⟨h1, h2⟩ | ⟨h1, rfl⟩
  all_goals
    go_enter Try.func65, Try.ntmps65
    go_wp2_with fail
  · refine (spec_FloorAt pos hn HS0.out).mono ?_
    rintro e w1 ⟨rfl, hd1⟩
    have HX1 := Lib.hid (HX0.out.drewed hd1)
    have HB1 := Lib.hid (below_drew HB0.out hd1)
    have HS1 := Lib.hid (HS0.out.drewed hd1)
    have hx1 := HX1.out.cells
    rw [h2.out]
    have hS : decide (0 ≤ standF f n pos sp) = st := hst.out.symm
    clear hd1 HX0 HB0 HS0
    go_wp2_with fail
    refine (spec_FloorsValid hn HS1.out).mono ?_
    rintro e w2 ⟨rfl, hd2⟩
    have HX2 := Lib.hid (HX1.out.drewed hd2)
    have HB2 := Lib.hid (below_drew HB1.out hd2)
    clear hx1 hd2 HX1 HB1 HS1
    have hx2 := HX2.out.cells
    cases hf : floorsB f n
    · go_wp2
      go_ret
      exact ⟨ret_bool (by simp [liftB, hf]), HB2.out⟩
    · go_wp2_with fail
      refine (spec_MotionValid pos sp _).mono ?_
      rintro e w3 ⟨rfl, hb3⟩
      have HX3 := Lib.hid (HX2.out.below hb3 HX2.out.lt)
      have HB3 := Lib.hid (HB2.out.trans (hb3.mono HB2.out.size))
      clear hx2 hb3 HX2 HB2
      have hx3 := HX3.out.cells
      cases hm : motionB pos sp
      · go_wp2
        go_ret
        exact ⟨ret_bool (by simp [liftB, hm]), HB3.out⟩
      · go_wp2_with fail
        refine (spec_DoorValid gap hold _).mono ?_
        rintro e w4 ⟨rfl, hb4⟩
        have HX4 := Lib.hid (HX3.out.below hb4 HX3.out.lt)
        have HB4 := Lib.hid (HB3.out.trans (hb4.mono HB3.out.size))
        clear hx3 hb4 HX3 HB3
        have hx4 := HX4.out.cells
        have HN : Hid ((decide (gap = 0) || st) = liftB f n pos sp gap hold) ∨ doorB gap hold = false := by
          cases hd : doorB gap hold
          · exact .inr rfl
          · exact .inl (Lib.hid (by rw [hst.out]; simp [liftB, hf, hm, hd]))
        rcases HN with HN | hd
        · have hd : doorB gap hold = true ∨ doorB gap hold = false := by cases doorB gap hold <;> simp
          rcases hd with hd | hd
          · cases hg : (gap == 0)
            all_goals
              go_wp2
              go_ret
              exact ⟨ret_bool (by rw [← HN.out]; simp at hg; simp [hg]), HB4.out⟩
          · go_wp2
            go_ret
            exact ⟨ret_bool (by simp [liftB, hd]), HB4.out⟩
        · go_wp2
          go_ret
          exact ⟨ret_bool (by simp [liftB, hd]), HB4.out⟩
  · have HX1 := Lib.hid HX0.out
    have HB1 := Lib.hid HB0.out
    have HS1 := Lib.hid HS0.out
    have hx1 := HX1.out.cells
    clear HX0 HB0 HS0
    generalize w.alloc (.cells #[.int .i64 pos, .int .i64 sp, .int .i64 gap, .int .i64 hold] 29) = w1 at *
    refine (spec_FloorsValid hn HS1.out).mono ?_
    rintro e w2 ⟨rfl, hd2⟩
    have HX2 := Lib.hid (HX1.out.drewed hd2)
    have HB2 := Lib.hid (below_drew HB1.out hd2)
    clear hx1 hd2 HX1 HB1 HS1
    have hx2 := HX2.out.cells
    cases hf : floorsB f n
    · go_wp2
      go_ret
      exact ⟨ret_bool (by simp [liftB, hf]), HB2.out⟩
    · go_wp2_with fail
      refine (spec_MotionValid pos sp _).mono ?_
      rintro e w3 ⟨rfl, hb3⟩
      have HX3 := Lib.hid (HX2.out.below hb3 HX2.out.lt)
      have HB3 := Lib.hid (HB2.out.trans (hb3.mono HB2.out.size))
      clear hx2 hb3 HX2 HB2
      have hx3 := HX3.out.cells
      cases hm : motionB pos sp
      · go_wp2
        go_ret
        exact ⟨ret_bool (by simp [liftB, hm]), HB3.out⟩
      · go_wp2_with fail
        refine (spec_DoorValid gap hold _).mono ?_
        rintro e w4 ⟨rfl, hb4⟩
        have HX4 := Lib.hid (HX3.out.below hb4 HX3.out.lt)
        have HB4 := Lib.hid (HB3.out.trans (hb4.mono HB3.out.size))
        clear hx3 hb4 HX3 HB3
        have hx4 := HX4.out.cells
        have HN : Hid ((decide (gap = 0) || false) = liftB f n pos sp gap hold) ∨ doorB gap hold = false := by
          cases hd : doorB gap hold
          · exact .inr rfl
          · exact .inl (Lib.hid (by rw [hst.out]; simp [liftB, hf, hm, hd]))
        rcases HN with HN | hd
        · have hd : doorB gap hold = true ∨ doorB gap hold = false := by cases doorB gap hold <;> simp
          rcases hd with hd | hd
          · cases hg : (gap == 0)
            all_goals
              go_wp2
              go_ret
              exact ⟨ret_bool (by rw [← HN.out]; simp at hg; simp [hg]), HB4.out⟩
          · go_wp2
            go_ret
            exact ⟨ret_bool (by simp [liftB, hd]), HB4.out⟩
        · go_wp2
          go_ret
          exact ⟨ret_bool (by simp [liftB, hd]), HB4.out⟩
end Go.Proofs.Ytailpiagjemhpaa
