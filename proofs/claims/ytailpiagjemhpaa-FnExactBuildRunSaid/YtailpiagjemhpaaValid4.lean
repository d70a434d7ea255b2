/-
  The contract of the reference's BuildValid. No claim stands here.
-/
import Derived.Test.YtailpiagjemhpaaValid3
namespace Go.Proofs.Ytailpiagjemhpaa
open Go.RowKit
set_option linter.unusedVariables false
set_option linter.unusedSimpArgs false

set_option maxHeartbeats 3200000 in
theorem spec_BuildValid {w : World} {B : Nat} {v : Bv} {b : Bld} (hn : b.Small) (hB : B ≤ w.heap.size) (hr : ReadB w B v b) :
    Calls Try.prog 17 #[bval v b] w fun e w' => e = .returned (.bool b.valid) ∧ Below w.heap.size w w' := by
  have HX0 := Lib.hid (Bx.new w (bcells v b) 36)
  have HB0 := Lib.hid ((Below.refl w.heap.size w).alloc (Nat.le_refl _) (.cells (bcells v b) 36))
  have HR0 := Lib.hid (hr.alloc hB (.cells (bcells v b) 36))
  have HSm := Lib.hid hn
  obtain ⟨m0, m1, m2, m3⟩ := hn
  clear hr
  have HBV : Hid (bval v b = .agg #[.slice v.A b.n v.c, .int .i64 b.pos, .int .i64 b.sp, .int .i64 b.gap, .int .i64 b.hold, .slice v.U b.nu v.cu, .slice v.D b.nd v.cd, .slice v.C b.nc v.cc, .int .i64 b.fl, .int .i64 b.dir, .bool b.op]) := Lib.hid rfl
  unfold bval bcells at *
  go_enter Try.func17, Try.ntmps17
  go_wp2_with fail
  refine (spec_LiftValid b.pos b.sp b.gap b.hold (by omega) (Nat.le_trans hB HB0.out.size) HR0.out.h).mono ?_
  rintro e w1 ⟨rfl, hb1⟩
  have HX1 := Lib.hid (HX0.out.below hb1 HX0.out.lt)
  have HB1 := Lib.hid (HB0.out.trans (hb1.mono HB0.out.size))
  have HR1 := Lib.hid (HR0.out.below (hb1.mono (Nat.le_trans hB HB0.out.size)))
  clear hb1 HX0 HB0 HR0
  have hx1 := HX1.out.cells
  cases hL : liftB b.f b.n b.pos b.sp b.gap b.hold
  · have HN := Lib.hid (valid_no1 hL)
    go_wp2
    go_ret
    exact ⟨ret_bool HN.out.symm, HB1.out⟩
  · go_wp2_with fail
    refine (spec_CallsValid (by omega) (by omega) (by omega) (Nat.le_trans hB HB1.out.size) HR1.out.u HR1.out.d).mono ?_
    rintro e w2 ⟨rfl, hb2⟩
    have HX2 := Lib.hid (HX1.out.below hb2 HX1.out.lt)
    have HB2 := Lib.hid (HB1.out.trans (hb2.mono HB1.out.size))
    have HR2 := Lib.hid (HR1.out.below (hb2.mono (Nat.le_trans hB HB1.out.size)))
    clear hx1 hb2 HX1 HB1 HR1
    have hx2 := HX2.out.cells
    cases hC : callsB b.nu b.nd b.nc b.up b.dn
    · have HN := Lib.hid (valid_no2 hC)
      go_wp2
      go_ret
      exact ⟨ret_bool HN.out.symm, HB2.out⟩
    · have hnc : b.nc = b.nu := (callsB_iff.1 hC).2.2.2.1
      by_cases hu : b.nu = b.n
      · have e1 : ((b.nc : Int) != (b.n : Int)) = false := by simp; omega
        have HE := Lib.hid (valid_end hL hC hu)
        clear hu hL hC hnc
        have hdir : ((b.dir != 1) = false ∧ Hid (b.dir = 1)) ∨ ((b.dir != 1) = true ∧ (b.dir != -1) = false ∧ Hid (b.dir = -1)) ∨ ((b.dir != 1) = true ∧ (b.dir != -1) = true ∧ Hid (haltB b.n b.stand b.gap b.fl b.dir b.op = false)) := by
          by_cases h1 : b.dir = 1
          · exact .inl ⟨by simp [h1], Lib.hid h1⟩
          · by_cases h2 : b.dir = -1
            · exact .inr (.inl ⟨by simp [h1], by simp [h2], Lib.hid h2⟩)
            · exact .inr (.inr ⟨by simp [h1], by simp [h2], Lib.hid (by simp [haltB, h1, h2])⟩)
        have done : Hid (b.dir = 1 ∨ b.dir = -1) → Hid (haltB b.n b.stand b.gap b.fl b.dir b.op = (if b.fl = -1 then decide (0 ≤ b.stand) else (inB b.fl 0 ((b.n : Int) - 1) && decide (b.gap = 0) && !b.op))) := fun h => Lib.hid (by
          unfold haltB
          rcases h.out with h | h <;> simp [h])
        rcases hdir with ⟨d1, hd⟩ | ⟨d1, d2, hd⟩ | ⟨d1, d2, hd⟩
        · have HD := done (Lib.hid (.inl hd.out))
          clear done
          go_wp2_with fail
          refine (l1In_any b.fl (-1) ((b.n : Int) - 1) _).mono ?_
          rintro e w3 ⟨rfl, rfl⟩
          cases hi : inB b.fl (-1) ((b.n : Int) - 1)
          · have HF : Hid (haltB b.n b.stand b.gap b.fl b.dir b.op = false) := Lib.hid (by
              have := inB_no.1 hi
              rw [HD.out, if_neg (by omega), inB_no.2 (by omega)]; rfl)
            go_wp2
            go_ret
            exact ⟨ret_bool (by rw [HE.out, HF.out]), HB2.out⟩
          · obtain ⟨i1, i2⟩ := inB_iff.1 hi
            by_cases hf : 0 ≤ b.fl
            · have HF : Hid (haltB b.n b.stand b.gap b.fl b.dir b.op = (decide (b.gap = 0) && !b.op)) := Lib.hid (by rw [HD.out, if_neg (by omega), inB_iff.2 ⟨hf, i2⟩]; rfl)
              cases hg : (b.gap == 0)
              all_goals
                go_wp2
                go_ret
                exact ⟨ret_bool (by rw [HE.out, HF.out]; simp at hg; simp [hg]), HB2.out⟩
            · have HF : Hid (haltB b.n b.stand b.gap b.fl b.dir b.op = decide (0 ≤ b.stand)) := Lib.hid (by rw [HD.out, if_pos (by omega)])
              go_wp2_with fail
              refine (l27Here_any HSm.out (Nat.le_trans hB HB2.out.size) HR2.out).mono ?_
              rintro e w3 ⟨rfl, hb3⟩
              have HB3 := Lib.hid (HB2.out.trans (hb3.mono HB2.out.size))
              clear hx2 hb3 HX2 HB2 HR2
              go_wp2
              go_ret
              exact ⟨ret_bool (by rw [HE.out, HF.out]), HB3.out⟩
        · have HD := done (Lib.hid (.inr hd.out))
          clear done
          go_wp2_with fail
          refine (l1In_any b.fl (-1) ((b.n : Int) - 1) _).mono ?_
          rintro e w3 ⟨rfl, rfl⟩
          cases hi : inB b.fl (-1) ((b.n : Int) - 1)
          · have HF : Hid (haltB b.n b.stand b.gap b.fl b.dir b.op = false) := Lib.hid (by
              have := inB_no.1 hi
              rw [HD.out, if_neg (by omega), inB_no.2 (by omega)]; rfl)
            go_wp2
            go_ret
            exact ⟨ret_bool (by rw [HE.out, HF.out]), HB2.out⟩
          · obtain ⟨i1, i2⟩ := inB_iff.1 hi
            by_cases hf : 0 ≤ b.fl
            · have HF : Hid (haltB b.n b.stand b.gap b.fl b.dir b.op = (decide (b.gap = 0) && !b.op)) := Lib.hid (by rw [HD.out, if_neg (by omega), inB_iff.2 ⟨hf, i2⟩]; rfl)
              cases hg : (b.gap == 0)
              all_goals
                go_wp2
                go_ret
                exact ⟨ret_bool (by rw [HE.out, HF.out]; simp at hg; simp [hg]), HB2.out⟩
            · have HF : Hid (haltB b.n b.stand b.gap b.fl b.dir b.op = decide (0 ≤ b.stand)) := Lib.hid (by rw [HD.out, if_pos (by omega)])
              go_wp2_with fail
              refine (l27Here_any HSm.out (Nat.le_trans hB HB2.out.size) HR2.out).mono ?_
              rintro e w3 ⟨rfl, hb3⟩
              have HB3 := Lib.hid (HB2.out.trans (hb3.mono HB2.out.size))
              clear hx2 hb3 HX2 HB2 HR2
              go_wp2
              go_ret
              exact ⟨ret_bool (by rw [HE.out, HF.out]), HB3.out⟩
        · go_wp2
          go_ret
          exact ⟨ret_bool (by rw [HE.out, hd.out]), HB2.out⟩
      · have e1 : ((b.nc : Int) != (b.n : Int)) = true := by simp; omega
        have HN := Lib.hid (valid_no3 hu)
        clear hu hnc
        go_wp2
        go_ret
        exact ⟨ret_bool HN.out.symm, HB2.out⟩
end Go.Proofs.Ytailpiagjemhpaa
