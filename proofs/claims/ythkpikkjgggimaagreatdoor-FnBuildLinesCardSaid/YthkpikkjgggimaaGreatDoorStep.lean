/-
  The contracts of MotionStep, in the program and in the reference. No claim stands here.
-/
import Derived.Test.YthkpikkjgggimaaGreatDoorDoor
import Derived.Test.YthkpikkjgggimaaGreatDoorDrive2
namespace Go.Proofs.YthkpikkjgggimaaGreatDoor
open Go.RowKit
set_option linter.unusedVariables false
set_option linter.unusedSimpArgs false

theorem drv_bd {a s t : Int} (hc : canStop a s t = true) : -5 ≤ drv a s t ∧ drv a s t ≤ 5 := (fit_iff.1 (drv_fits hc).1).2.1
theorem step_low {a s t v : Int} (h : newSpeed a s t = v) (h' : a + v < 0) : stepAt a s t = 0 ∧ stepSp a s t = 0 := by subst h; exact end_low h'
theorem step_high {a s t v : Int} (h : newSpeed a s t = v) (h' : 60 < a + v) : stepAt a s t = 60 ∧ stepSp a s t = 0 := by subst h; exact end_high h'
theorem step_in {a s t v : Int} (h : newSpeed a s t = v) (h1 : 0 ≤ a + v) (h2 : a + v ≤ 60) : stepAt a s t = a + v ∧ stepSp a s t = v := by subst h; exact end_in h1 h2

set_option maxHeartbeats 6400000 in
theorem impl_MotionStep {a s t : Int} (hm : motionB a s = true) (ht : inB t 0 60 = true) (w : World) :
    Calls Tryz.prog 95 #[.agg #[.int .i64 a, .int .i64 s], .int .i64 t] w fun e w' => e = .returned (.agg #[.int .i64 (stepAt a s t), .int .i64 (stepSp a s t)]) ∧ Below w.heap.size w w' := by
  obtain ⟨⟨a1, a2⟩, s1, s2⟩ := motionB_iff.1 hm
  have HM := Lib.hid hm
  have HT := Lib.hid ht
  clear hm ht
  go_enter Tryz.func95, Tryz.ntmps95
  go_wp2_with fail
  refine (impl_MotionValid a s _).mono ?_
  rintro e w1 ⟨rfl, hb1⟩
  rw [HM.out]
  obtain ⟨x, y, hbb, hs1⟩ := boxes2' hb1
  have HX1 := Lib.hid x
  have HY1 := Lib.hid y
  have HB1 := Lib.hid hbb
  have c0 := x.cells
  clear x y hbb hb1
  go_wp2_with fail
  refine (stepValid_any t _).mono ?_
  rintro e w2 ⟨rfl, rfl⟩
  rw [HT.out]
  go_wp2_with fail
  refine (impl_CanStop a s t _).mono ?_
  rintro e w2 ⟨rfl, hb2⟩
  have HX2 := Lib.hid (HX1.out.below hb2 HX1.out.lt)
  have HY2 := Lib.hid (HY1.out.below hb2 HY1.out.lt)
  have HB2 := Lib.hid (HB1.out.trans (hb2.mono HB1.out.size))
  clear hb2 HX1 HY1 HB1 c0
  have c0 := HX2.out.cells
  cases hc : canStop a s t
  · have z0 := HX2.out.free
    have c1 := HY2.out.cells
    have z1 := HY2.out.free
    by_cases h0 : 0 < s
    · have HV := Lib.hid (newSpeed_up hc h0)
      clear hc
      rcases (by omega : 60 < a + (s - 1) ∨ (0 ≤ a + (s - 1) ∧ a + (s - 1) ≤ 60)) with hh | ⟨h3, h4⟩
      · have HE := Lib.hid (step_high HV.out hh)
        go_wp2
        refine bodyPost_ret (v := .agg #[.int .i64 (stepAt a s t), .int .i64 (stepSp a s t)]) (by rw [HE.out.1, HE.out.2]; simp [results, Tryz.results95, go_sem, c0, c1]) rfl ⟨rfl, ?_⟩
        repeat (refine below_set (by simp <;> omega) ?_)
        exact HB2.out
      · have HE := Lib.hid (step_in HV.out h3 h4)
        go_wp2
        refine bodyPost_ret (v := .agg #[.int .i64 (stepAt a s t), .int .i64 (stepSp a s t)]) (by rw [HE.out.1, HE.out.2]; simp [results, Tryz.results95, go_sem, c0, c1]) rfl ⟨rfl, ?_⟩
        repeat (refine below_set (by simp <;> omega) ?_)
        exact HB2.out
    · have HV := Lib.hid (newSpeed_dn hc h0)
      clear hc
      rcases (by omega : a + (s + 1) < 0 ∨ 60 < a + (s + 1) ∨ (0 ≤ a + (s + 1) ∧ a + (s + 1) ≤ 60)) with hh | hh | ⟨h3, h4⟩
      · have HE := Lib.hid (step_low HV.out hh)
        go_wp2
        refine bodyPost_ret (v := .agg #[.int .i64 (stepAt a s t), .int .i64 (stepSp a s t)]) (by rw [HE.out.1, HE.out.2]; simp [results, Tryz.results95, go_sem, c0, c1]) rfl ⟨rfl, ?_⟩
        repeat (refine below_set (by simp <;> omega) ?_)
        exact HB2.out
      · have HE := Lib.hid (step_high HV.out hh)
        go_wp2
        refine bodyPost_ret (v := .agg #[.int .i64 (stepAt a s t), .int .i64 (stepSp a s t)]) (by rw [HE.out.1, HE.out.2]; simp [results, Tryz.results95, go_sem, c0, c1]) rfl ⟨rfl, ?_⟩
        repeat (refine below_set (by simp <;> omega) ?_)
        exact HB2.out
      · have HE := Lib.hid (step_in HV.out h3 h4)
        go_wp2
        refine bodyPost_ret (v := .agg #[.int .i64 (stepAt a s t), .int .i64 (stepSp a s t)]) (by rw [HE.out.1, HE.out.2]; simp [results, Tryz.results95, go_sem, c0, c1]) rfl ⟨rfl, ?_⟩
        repeat (refine below_set (by simp <;> omega) ?_)
        exact HB2.out
  · have hd := drv_bd hc
    have HV := Lib.hid (newSpeed_yes hc)
    have HC := Lib.hid (drivenSpeed_any hc)
    clear hc
    generalize drv a s t = v at *
    obtain ⟨d1, d2⟩ := hd
    go_wp2_with fail
    refine (HC.out _).mono ?_
    rintro e w3 ⟨rfl, hb3⟩
    have HX3 := Lib.hid (HX2.out.below hb3 HX2.out.lt)
    have HY3 := Lib.hid (HY2.out.below hb3 HY2.out.lt)
    have HB3 := Lib.hid (HB2.out.trans (hb3.mono HB2.out.size))
    clear hb3 HX2 HY2 HB2 c0 HC
    have c0 := HX3.out.cells
    have z0 := HX3.out.free
    have c1 := HY3.out.cells
    have z1 := HY3.out.free
    rcases (by omega : a + v < 0 ∨ 60 < a + v ∨ (0 ≤ a + v ∧ a + v ≤ 60)) with hh | hh | ⟨h3, h4⟩
    · have HE := Lib.hid (step_low HV.out hh)
      go_wp2
      refine bodyPost_ret (v := .agg #[.int .i64 (stepAt a s t), .int .i64 (stepSp a s t)]) (by rw [HE.out.1, HE.out.2]; simp [results, Tryz.results95, go_sem, c0, c1]) rfl ⟨rfl, ?_⟩
      repeat (refine below_set (by simp <;> omega) ?_)
      exact HB3.out
    · have HE := Lib.hid (step_high HV.out hh)
      go_wp2
      refine bodyPost_ret (v := .agg #[.int .i64 (stepAt a s t), .int .i64 (stepSp a s t)]) (by rw [HE.out.1, HE.out.2]; simp [results, Tryz.results95, go_sem, c0, c1]) rfl ⟨rfl, ?_⟩
      repeat (refine below_set (by simp <;> omega) ?_)
      exact HB3.out
    · have HE := Lib.hid (step_in HV.out h3 h4)
      go_wp2
      refine bodyPost_ret (v := .agg #[.int .i64 (stepAt a s t), .int .i64 (stepSp a s t)]) (by rw [HE.out.1, HE.out.2]; simp [results, Tryz.results95, go_sem, c0, c1]) rfl ⟨rfl, ?_⟩
      repeat (refine below_set (by simp <;> omega) ?_)
      exact HB3.out
end Go.Proofs.YthkpikkjgggimaaGreatDoor
