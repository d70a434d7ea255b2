/-
  The contract of the reference's MotionStep. No claim stands here.
-/
import Derived.Test.YthkpikkjgggimaaGreatDoorStep
namespace Go.Proofs.YthkpikkjgggimaaGreatDoor
open Go.RowKit
set_option linter.unusedVariables false
set_option linter.unusedSimpArgs false

theorem in_range {x : Int} (h : 0 ≤ x) (h' : x ≤ 60) : inB x 0 60 = true := inB_iff.2 ⟨h, h'⟩
theorem in_low {x : Int} (h : x < 0) : inB x 0 60 = false := inB_no.2 (by omega)
theorem in_high {x : Int} (h : 60 < x) : inB x 0 60 = false := inB_no.2 (by omega)
theorem fit_range {a t v : Int} (h : inB v (-5) 5 = false) : fitB a t v = false := by
  cases hf : fitB a t v
  · rfl
  · have := (fit_iff.1 hf).2.1
    have := inB_no.1 h
    omega

set_option maxHeartbeats 12800000 in
theorem spec_MotionStep {a s t : Int} (hm : motionB a s = true) (ht : inB t 0 60 = true) (w : World) :
    Calls Tryz.prog 106 #[.agg #[.int .i64 a, .int .i64 s], .int .i64 t] w fun e w' => e = .returned (.agg #[.int .i64 (stepAt a s t), .int .i64 (stepSp a s t)]) ∧ Below w.heap.size w w' := by
  obtain ⟨⟨a1, a2⟩, s1, s2⟩ := motionB_iff.1 hm
  have HM := Lib.hid hm
  have HT := Lib.hid ht
  clear hm ht
  go_enter Tryz.func106, Tryz.ntmps106
  go_wp2_with fail
  refine (spec_MotionValid a s _).mono ?_
  rintro e w1 ⟨rfl, hb1⟩
  rw [HM.out]
  obtain ⟨x, y, hbb, hs1⟩ := boxes2' hb1
  have HX1 := Lib.hid x
  have HY1 := Lib.hid y
  have HB1 := Lib.hid hbb
  have c0 := x.cells
  clear x y hbb hb1
  go_wp2_with fail
  refine (l1In_any t 0 60 _).mono ?_
  rintro e w2 ⟨rfl, rfl⟩
  rw [HT.out]
  go_wp2_with fail
  refine (spec_CanStop a s t _).mono ?_
  rintro e w2 ⟨rfl, hb2⟩
  have HX2 := Lib.hid (HX1.out.below hb2 HX1.out.lt)
  have HY2 := Lib.hid (HY1.out.below hb2 HY1.out.lt)
  have HB2 := Lib.hid (HB1.out.trans (hb2.mono HB1.out.size))
  clear hb2 HX1 HY1 HB1 c0
  have c0 := HX2.out.cells
  cases hc : canStop a s t
  · have z0 := HX2.out.free
    have c1 := HY2.out.cells
    have z1 := HY2.out.free
    by_cases h0 : 0 < s
    · have HV := Lib.hid (newSpeed_up hc h0)
      clear hc
      rcases (by omega : 60 < a + (s - 1) ∨ (0 ≤ a + (s - 1) ∧ a + (s - 1) ≤ 60)) with hh | ⟨h3, h4⟩
      · have HE := Lib.hid (step_high HV.out hh)
        have HI := Lib.hid (in_high hh)
        go_wp2_with fail
        refine (l1In_any _ 0 60 _).mono ?_
        rintro e w4 ⟨rfl, rfl⟩
        rw [HI.out]
        go_wp2
        refine bodyPost_ret (v := .agg #[.int .i64 (stepAt a s t), .int .i64 (stepSp a s t)]) (by rw [HE.out.1, HE.out.2]; simp [results, Tryz.results106, go_sem, c0, c1]) rfl ⟨rfl, ?_⟩
        repeat (refine below_set (by simp <;> omega) ?_)
        exact HB2.out
      · have HE := Lib.hid (step_in HV.out h3 h4)
        have HI := Lib.hid (in_range h3 h4)
        go_wp2_with fail
        refine (l1In_any _ 0 60 _).mono ?_
        rintro e w4 ⟨rfl, rfl⟩
        rw [HI.out]
        go_wp2
        refine bodyPost_ret (v := .agg #[.int .i64 (stepAt a s t), .int .i64 (stepSp a s t)]) (by rw [HE.out.1, HE.out.2]; simp [results, Tryz.results106, go_sem, c0, c1]) rfl ⟨rfl, ?_⟩
        repeat (refine below_set (by simp <;> omega) ?_)
        exact HB2.out
    · have HV := Lib.hid (newSpeed_dn hc h0)
      clear hc
      rcases (by omega : a + (s + 1) < 0 ∨ 60 < a + (s + 1) ∨ (0 ≤ a + (s + 1) ∧ a + (s + 1) ≤ 60)) with hh | hh | ⟨h3, h4⟩
      · have HE := Lib.hid (step_low HV.out hh)
        have HI := Lib.hid (in_low hh)
        go_wp2_with fail
        refine (l1In_any _ 0 60 _).mono ?_
        rintro e w4 ⟨rfl, rfl⟩
        rw [HI.out]
        go_wp2
        refine bodyPost_ret (v := .agg #[.int .i64 (stepAt a s t), .int .i64 (stepSp a s t)]) (by rw [HE.out.1, HE.out.2]; simp [results, Tryz.results106, go_sem, c0, c1]) rfl ⟨rfl, ?_⟩
        repeat (refine below_set (by simp <;> omega) ?_)
        exact HB2.out
      · have HE := Lib.hid (step_high HV.out hh)
        have HI := Lib.hid (in_high hh)
        go_wp2_with fail
        refine (l1In_any _ 0 60 _).mono ?_
        rintro e w4 ⟨rfl, rfl⟩
        rw [HI.out]
        go_wp2
        refine bodyPost_ret (v := .agg #[.int .i64 (stepAt a s t), .int .i64 (stepSp a s t)]) (by rw [HE.out.1, HE.out.2]; simp [results, Tryz.results106, go_sem, c0, c1]) rfl ⟨rfl, ?_⟩
        repeat (refine below_set (by simp <;> omega) ?_)
        exact HB2.out
      · have HE := Lib.hid (step_in HV.out h3 h4)
        have HI := Lib.hid (in_range h3 h4)
        go_wp2_with fail
        refine (l1In_any _ 0 60 _).mono ?_
        rintro e w4 ⟨rfl, rfl⟩
        rw [HI.out]
        go_wp2
        refine bodyPost_ret (v := .agg #[.int .i64 (stepAt a s t), .int .i64 (stepSp a s t)]) (by rw [HE.out.1, HE.out.2]; simp [results, Tryz.results106, go_sem, c0, c1]) rfl ⟨rfl, ?_⟩
        repeat (refine below_set (by simp <;> omega) ?_)
        exact HB2.out
  · have hd := drv_bd hc
    have HV := Lib.hid (newSpeed_yes hc)
    have HD := Lib.hid (foldS_drv hc)
    clear hc
    generalize drv a s t = v0 at *
    obtain ⟨d1, d2⟩ := hd
    have HUP : Hid (∀ x y, betS a t x y = if decide (a ≤ t) = true then decide (y < x) else decide (x < y)) := Lib.hid (fun x y => by simp [betS])
    cases hat : decide (a ≤ t)
    all_goals
      go_wp2
      clear c0
      go_loopw [7, 8, 9] (fun s7 s8 s9 wr => ∃ (k : Nat) (d : Int), k ≤ 3 ∧ (k : Int) - 1 ≤ d ∧ d ≤ (k : Int) - 1 ∧ s9 = .int .i64 d ∧ s7 = .int .i64 (foldV (fitB a t) (betS a t) s k).1 ∧ s8 = .bool (foldV (fitB a t) (betS a t) s k).2 ∧ Hid (Bx wr w.heap.size #[.int .i64 a, .int .i64 s]) ∧ Hid (Bx wr (w.heap.size + 1) #[.int .i64 0, .int .i64 0]) ∧ Hid (Below w.heap.size w wr)) (fun _ _ s9 _ => (2 - intOf s9).toNat)
      case atStart => exact ⟨0, -1, by omega, by simp, by simp, rfl, rfl, rfl, HX2, HY2, HB2⟩
      case round =>
        obtain ⟨k, d, hk, hd1, hd2, rfl, rfl, rfl, HX, HY, HB⟩ := hrel
        have c0 := HX.out.cells
        have HK : Hid (s - 1 + (k : Int) = s + d) := Lib.hid (by omega)
        by_cases hlt : k < 3
        · have hle : d ≤ 1 := by omega
          have hge : -1 ≤ d := by omega
          have HN := Lib.hid (@foldV_no (fitB a t) (betS a t) s k)
          have HF := Lib.hid (@foldV_first (fitB a t) (betS a t) s k)
          have HT2 := Lib.hid (@foldV_bet (fitB a t) (betS a t) s k)
          have HO := Lib.hid (@foldV_not (fitB a t) (betS a t) s k)
          rw [HK.out] at HN HF HT2 HO
          generalize hF1 : foldV (fitB a t) (betS a t) s (k + 1) = F1 at *
          have HF1 := Lib.hid hF1
          clear hF1
          generalize foldV (fitB a t) (betS a t) s k = F0 at *
          obtain ⟨be, fd⟩ := F0
          simp only at HN HF HT2 HO
          go_wp2_with fail
          refine (l1In_any _ (-5) 5 _).mono ?_
          rintro e w3 ⟨rfl, rfl⟩
          cases hi : inB (s + d) (-5) 5
          · have HE := Lib.hid (HN.out (fit_range hi))
            clear HN HF HT2 HO
            go_wp2
            go_roundw
            case rel => exact ⟨k + 1, d + 1, by omega, by omega, by omega, rfl, by rw [HF1.out, HE.out], by rw [HF1.out, HE.out], HX, HY, HB⟩
            case measure => simp [intOf]; omega
          · go_wp2_with fail
            refine (spec_l2Fits a s (s + d) t (by omega) (by omega) _).mono ?_
            rintro e w4 ⟨rfl, hb4⟩
            have HX4 := Lib.hid (HX.out.below hb4 HX.out.lt)
            have HY4 := Lib.hid (HY.out.below hb4 HY.out.lt)
            have HB4 := Lib.hid (HB.out.trans (hb4.mono HB.out.size))
            clear hb4 HX HY HB c0
            have c0 := HX4.out.cells
            cases hf : fitB a t (s + d)
            · have HE := Lib.hid (HN.out hf)
              clear HN HF HT2 HO
              go_wp2
              go_roundw
              case rel => exact ⟨k + 1, d + 1, by omega, by omega, by omega, rfl, by rw [HF1.out, HE.out], by rw [HF1.out, HE.out], HX4, HY4, HB4⟩
              case measure => simp [intOf]; omega
            · cases fd
              · have HE := Lib.hid (HF.out hf rfl)
                clear HN HF HT2 HO
                go_wp2
                go_roundw
                case rel => exact ⟨k + 1, d + 1, by omega, by omega, by omega, rfl, by rw [HF1.out, HE.out], by rw [HF1.out, HE.out], HX4, HY4, HB4⟩
                case measure => simp [intOf]; omega
              · rcases (by omega : (be < s + d ∧ ¬ s + d < be) ∨ (¬ be < s + d ∧ s + d < be) ∨ (¬ be < s + d ∧ ¬ s + d < be)) with ⟨hb, hb'⟩ | ⟨hb, hb'⟩ | ⟨hb, hb'⟩
                all_goals
                  have HE : Hid (F1 = if betS a t (s + d) be = true then (s + d, true) else (be, true)) := Lib.hid (by
                    cases hbt : betS a t (s + d) be
                    · rw [HO.out rfl hbt]; rfl
                    · rw [HT2.out hf hbt]; rfl)
                  have HU := Lib.hid (HUP.out (s + d) be)
                  clear HN HF HT2 HO
                  go_wp2
                  go_roundw
                  case rel => exact ⟨k + 1, d + 1, by omega, by omega, by omega, rfl, by rw [HF1.out, HE.out, HU.out]; simp only [hat]; first | rfl | (simp; split <;> first | rfl | omega), by rw [HF1.out, HE.out, HU.out]; simp only [hat]; first | rfl | (simp; split <;> first | rfl | omega), HX4, HY4, HB4⟩
                  case measure => simp [intOf]; omega
        · obtain rfl : k = 3 := by omega
          have hle : ¬ d ≤ 1 := by omega
          rw [HD.out]
          clear HK
          have z0 := HX.out.free
          have c1 := HY.out.cells
          have z1 := HY.out.free
          rcases (by omega : a + v0 < 0 ∨ 60 < a + v0 ∨ (0 ≤ a + v0 ∧ a + v0 ≤ 60)) with hh | hh | ⟨h3, h4⟩
          · have HE := Lib.hid (step_low HV.out hh)
            have HI := Lib.hid (in_low hh)
            go_wp2_with fail
            refine (l1In_any _ 0 60 _).mono ?_
            rintro e w4 ⟨rfl, rfl⟩
            rw [HI.out]
            go_wp2
            refine bodyPost_ret (v := .agg #[.int .i64 (stepAt a s t), .int .i64 (stepSp a s t)]) (by rw [HE.out.1, HE.out.2]; simp [results, Tryz.results106, go_sem, c0, c1]) rfl ⟨rfl, ?_⟩
            repeat (refine below_set (by simp <;> omega) ?_)
            exact HB.out
          · have HE := Lib.hid (step_high HV.out hh)
            have HI := Lib.hid (in_high hh)
            go_wp2_with fail
            refine (l1In_any _ 0 60 _).mono ?_
            rintro e w4 ⟨rfl, rfl⟩
            rw [HI.out]
            go_wp2
            refine bodyPost_ret (v := .agg #[.int .i64 (stepAt a s t), .int .i64 (stepSp a s t)]) (by rw [HE.out.1, HE.out.2]; simp [results, Tryz.results106, go_sem, c0, c1]) rfl ⟨rfl, ?_⟩
            repeat (refine below_set (by simp <;> omega) ?_)
            exact HB.out
          · have HE := Lib.hid (step_in HV.out h3 h4)
            have HI := Lib.hid (in_range h3 h4)
            go_wp2_with fail
            refine (l1In_any _ 0 60 _).mono ?_
            rintro e w4 ⟨rfl, rfl⟩
            rw [HI.out]
            go_wp2
            refine bodyPost_ret (v := .agg #[.int .i64 (stepAt a s t), .int .i64 (stepSp a s t)]) (by rw [HE.out.1, HE.out.2]; simp [results, Tryz.results106, go_sem, c0, c1]) rfl ⟨rfl, ?_⟩
            repeat (refine below_set (by simp <;> omega) ?_)
            exact HB.out
end Go.Proofs.YthkpikkjgggimaaGreatDoor
