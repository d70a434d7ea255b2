/-
  The contracts of BrakeWay and CanStop, in the program and in the reference. No claim stands here.
-/
import Derived.Test.YthkpikkjgggimaaGreatDoorSetI
namespace Go.Proofs.YthkpikkjgggimaaGreatDoor
open Go.RowKit
set_option linter.unusedVariables false
set_option linter.unusedSimpArgs false

theorem impl_BrakeWay {s : Int} (hs : inB s (-5) 5 = true) (w : World) : Calls Tryz.prog 141 #[.int .i64 s] w fun e w' => e = .returned (.int .i64 (brake s)) ∧ w = w' := by
  rcases speeds hs with rfl | rfl | rfl | rfl | rfl | rfl | rfl | rfl | rfl | rfl | rfl
  all_goals
    clear hs
    go_enter Tryz.func141, Tryz.ntmps141
    go_wp2
    go_ret
    exact ⟨ret_int (by decide), rfl⟩
theorem spec_BrakeWay0 {s : Int} (hs : inB s 0 5 = true) (w : World) : Calls Tryz.prog 153 #[.int .i64 s] w fun e w' => e = .returned (.int .i64 (brake s)) ∧ w = w' := by
  have := inB_iff.1 hs
  rcases (by omega : s = 0 ∨ s = 1 ∨ s = 2 ∨ s = 3 ∨ s = 4 ∨ s = 5) with rfl | rfl | rfl | rfl | rfl | rfl
  all_goals
    clear hs this
    go_enter Tryz.func153, Tryz.ntmps153
    go_wp2_with fail
    refine (l1In_any _ _ _ _).mono ?_
    rintro e w1 ⟨rfl, rfl⟩
    rw [show inB _ (-5) 5 = true by decide]
    go_wp2
    go_ret
    exact ⟨ret_int (by decide), rfl⟩
theorem spec_BrakeWay {s : Int} (hs : inB s (-5) 5 = true) (w : World) : Calls Tryz.prog 153 #[.int .i64 s] w fun e w' => e = .returned (.int .i64 (brake s)) ∧ w = w' := by
  by_cases h0 : 0 ≤ s
  · exact spec_BrakeWay0 (inB_iff.2 ⟨h0, (inB_iff.1 hs).2⟩) w
  · have := inB_iff.1 hs
    rcases (by omega : s = -1 ∨ s = -2 ∨ s = -3 ∨ s = -4 ∨ s = -5) with rfl | rfl | rfl | rfl | rfl
    all_goals
      clear hs this h0
      go_enter Tryz.func153, Tryz.ntmps153
      go_wp2_with fail
      refine (l1In_any _ _ _ _).mono ?_
      rintro e w1 ⟨rfl, rfl⟩
      rw [show inB _ (-5) 5 = true by decide]
      go_wp2_with fail
      refine (spec_BrakeWay0 (by decide) _).mono ?_
      rintro e w2 ⟨rfl, rfl⟩
      go_wp2
      go_ret
      exact ⟨ret_int (by decide +kernel), rfl⟩

theorem can_no1 {a s t : Int} (h : motionB a s = false) : canStop a s t = false := by simp [canStop, h]
theorem can_no2 {a s t : Int} (h : inB t 0 60 = false) : canStop a s t = false := by simp [canStop, h]
theorem can_pos {a s t : Int} (h : motionB a s = true) (h' : inB t 0 60 = true) (h0 : 0 < s) : canStop a s t = decide (a + brake s ≤ t) := by simp [canStop, h, h', stopT, h0]
theorem can_neg {a s t : Int} (h : motionB a s = true) (h' : inB t 0 60 = true) (h0 : s < 0) : canStop a s t = decide (t ≤ a + brake s) := by simp [canStop, h, h', stopT, h0, show ¬ 0 < s by omega]
theorem can_zero {a s t : Int} (h : motionB a s = true) (h' : inB t 0 60 = true) (h0 : s = 0) : canStop a s t = true := by
  subst h0; simp [canStop, h, h', stopT]

set_option maxHeartbeats 3200000 in
theorem impl_CanStop (a s t : Int) (w : World) : Calls Tryz.prog 126 #[.agg #[.int .i64 a, .int .i64 s], .int .i64 t] w fun e w' => e = .returned (.bool (canStop a s t)) ∧ Below w.heap.size w w' := by
  have HX0 := Lib.hid (Bx.new w #[.int .i64 a, .int .i64 s] 25)
  have HB0 := Lib.hid ((Below.refl w.heap.size w).alloc (Nat.le_refl _) (.cells #[.int .i64 a, .int .i64 s] 25))
  go_enter Tryz.func126, Tryz.ntmps126
  go_wp2_with fail
  refine (impl_MotionValid a s _).mono ?_
  rintro e w1 ⟨rfl, hb1⟩
  have HX1 := Lib.hid (HX0.out.below hb1 HX0.out.lt)
  have HB1 := Lib.hid (HB0.out.trans (hb1.mono HB0.out.size))
  clear hb1 HX0 HB0
  cases hm : motionB a s
  · have HN := Lib.hid (can_no1 (t := t) hm)
    go_wp2
    go_ret
    exact ⟨ret_bool HN.out.symm, HB1.out⟩
  · go_wp2_with fail
    refine (stepValid_any t _).mono ?_
    rintro e w2 ⟨rfl, rfl⟩
    cases ht : inB t 0 60
    · have HN := Lib.hid (can_no2 (a := a) (s := s) ht)
      go_wp2
      go_ret
      exact ⟨ret_bool HN.out.symm, HB1.out⟩
    · have hm' := motionB_iff.1 hm
      have hbs := brake_sign (inB_iff.2 hm'.2)
      have c0 := HX1.out.cells
      rcases Int.lt_trichotomy s 0 with h0 | h0 | h0
      · have HN := Lib.hid (can_neg hm ht h0)
        have HC : Hid (∀ W, Calls Tryz.prog 141 #[.int .i64 s] W fun e w' => e = .returned (.int .i64 (brake s)) ∧ W = w') := Lib.hid (impl_BrakeWay (inB_iff.2 hm'.2))
        have hb' := hbs.2 (by omega)
        generalize brake s = bs at *
        have x1 : IntKind.i64.wrap (a + bs) = a + bs := IntWalk.i64_in _ (by omega)
        clear hbs hm ht
        go_wp2
        go_quiet ((go_at_call 141; exact quiet_left (HC.out _)))
        clear x1
        go_wp2
        go_ret
        exact ⟨ret_bool HN.out.symm, by first | exact HB1.out.drew | exact below_drewN HB1.out _⟩
      · have HN := Lib.hid (can_zero hm ht h0)
        have h1 : decide (0 < s) = false := by simp; omega
        have h2 : decide (s < 0) = false := by simp; omega
        clear h0 hbs hm ht
        go_wp2
        go_ret
        exact ⟨ret_bool HN.out.symm, HB1.out⟩
      · have HN := Lib.hid (can_pos hm ht h0)
        have HC : Hid (∀ W, Calls Tryz.prog 141 #[.int .i64 s] W fun e w' => e = .returned (.int .i64 (brake s)) ∧ W = w') := Lib.hid (impl_BrakeWay (inB_iff.2 hm'.2))
        have hb' := hbs.1 (by omega)
        generalize brake s = bs at *
        have x1 : IntKind.i64.wrap (a + bs) = a + bs := IntWalk.i64_in _ (by omega)
        clear hbs hm ht
        go_wp2
        go_quiet ((go_at_call 141; exact quiet_left (HC.out _)))
        clear x1
        go_wp2
        go_ret
        exact ⟨ret_bool HN.out.symm, by first | exact HB1.out.drew | exact below_drewN HB1.out _⟩
set_option maxHeartbeats 3200000 in
theorem spec_CanStop (a s t : Int) (w : World) : Calls Tryz.prog 135 #[.agg #[.int .i64 a, .int .i64 s], .int .i64 t] w fun e w' => e = .returned (.bool (canStop a s t)) ∧ Below w.heap.size w w' := by
  have HX0 := Lib.hid (Bx.new w #[.int .i64 a, .int .i64 s] 25)
  have HB0 := Lib.hid ((Below.refl w.heap.size w).alloc (Nat.le_refl _) (.cells #[.int .i64 a, .int .i64 s] 25))
  go_enter Tryz.func135, Tryz.ntmps135
  go_wp2_with fail
  refine (spec_MotionValid a s _).mono ?_
  rintro e w1 ⟨rfl, hb1⟩
  have HX1 := Lib.hid (HX0.out.below hb1 HX0.out.lt)
  have HB1 := Lib.hid (HB0.out.trans (hb1.mono HB0.out.size))
  clear hb1 HX0 HB0
  cases hm : motionB a s
  · have HN := Lib.hid (can_no1 (t := t) hm)
    go_wp2
    go_ret
    exact ⟨ret_bool HN.out.symm, HB1.out⟩
  · go_wp2_with fail
    refine (l1In_any t 0 60 _).mono ?_
    rintro e w2 ⟨rfl, rfl⟩
    cases ht : inB t 0 60
    · have HN := Lib.hid (can_no2 (a := a) (s := s) ht)
      go_wp2
      go_ret
      exact ⟨ret_bool HN.out.symm, HB1.out⟩
    · have hm' := motionB_iff.1 hm
      have hbs := brake_sign (inB_iff.2 hm'.2)
      have c0 := HX1.out.cells
      rcases Int.lt_trichotomy s 0 with h0 | h0 | h0
      · have HN := Lib.hid (can_neg hm ht h0)
        have HC : Hid (∀ W, Calls Tryz.prog 153 #[.int .i64 s] W fun e w' => e = .returned (.int .i64 (brake s)) ∧ W = w') := Lib.hid (spec_BrakeWay (inB_iff.2 hm'.2))
        have hb' := hbs.2 (by omega)
        generalize brake s = bs at *
        have x1 : IntKind.i64.wrap (a + bs) = a + bs := IntWalk.i64_in _ (by omega)
        clear hbs hm ht
        go_wp2
        go_quiet ((go_at_call 153; exact quiet_left (HC.out _)))
        clear x1
        go_wp2
        go_ret
        exact ⟨ret_bool HN.out.symm, by first | exact HB1.out.drew | exact below_drewN HB1.out _⟩
      · have HN := Lib.hid (can_zero hm ht h0)
        have h1 : decide (0 < s) = false := by simp; omega
        have h2 : decide (s < 0) = false := by simp; omega
        clear h0 hbs hm ht
        go_wp2
        go_ret
        exact ⟨ret_bool HN.out.symm, HB1.out⟩
      · have HN := Lib.hid (can_pos hm ht h0)
        have HC : Hid (∀ W, Calls Tryz.prog 153 #[.int .i64 s] W fun e w' => e = .returned (.int .i64 (brake s)) ∧ W = w') := Lib.hid (spec_BrakeWay (inB_iff.2 hm'.2))
        have hb' := hbs.1 (by omega)
        generalize brake s = bs at *
        have x1 : IntKind.i64.wrap (a + bs) = a + bs := IntWalk.i64_in _ (by omega)
        clear hbs hm ht
        go_wp2
        go_quiet ((go_at_call 153; exact quiet_left (HC.out _)))
        clear x1
        go_wp2
        go_ret
        exact ⟨ret_bool HN.out.symm, by first | exact HB1.out.drew | exact below_drewN HB1.out _⟩
end Go.Proofs.YthkpikkjgggimaaGreatDoor
