/-
  The contracts of l27Here and BuildValid, in the program and in the reference. No claim stands here.
-/
import Derived.Test.YtailpiagjemhpaaValid2
namespace Go.Proofs.Ytailpiagjemhpaa
open Go.RowKit
set_option linter.unusedVariables false
set_option linter.unusedSimpArgs false

/-- No slice of a building is longer than that. -/
def Bld.Small (b : Bld) : Prop := b.n ≤ 17592186044415 ∧ b.nu ≤ 17592186044415 ∧ b.nd ≤ 17592186044415 ∧ b.nc ≤ 17592186044415

theorem l27Here_any {w : World} {B : Nat} {v : Bv} {b : Bld} (hn : b.Small) (hB : B ≤ w.heap.size) (hr : ReadB w B v b) :
    Calls Try.prog 68 #[bval v b] w fun e w' => e = .returned (.int .i64 b.stand) ∧ Below w.heap.size w w' := by
  have HB := Lib.hid ((Below.refl w.heap.size w).alloc (Nat.le_refl _) (.cells (bcells v b) 36))
  have HS := Lib.hid (hr.alloc hB (.cells (bcells v b) 36)).h
  have hn0 := hn.1
  clear hr hn
  unfold bval bcells at *
  by_cases h : b.sp = 0
  · have h1 : (b.sp != 0) = false := by simp [h]
    have HN : Hid (floorAtOf b.f b.n b.pos = b.stand) := Lib.hid (by simp [Bld.stand, standF, h])
    clear h
    go_enter Try.func68, Try.ntmps68
    go_wp2_with fail
    refine (spec_FloorAt b.pos (by omega) HS.out).mono ?_
    rintro e w1 ⟨rfl, hd⟩
    have HB1 := Lib.hid (below_drew HB.out hd)
    clear hd
    go_wp2
    go_ret
    exact ⟨ret_int HN.out, HB1.out⟩
  · have h1 : (b.sp != 0) = true := by simp [h]
    have HN : Hid (-1 = b.stand) := Lib.hid (by simp [Bld.stand, standF, h])
    clear h
    go_enter Try.func68, Try.ntmps68
    go_wp2
    go_ret
    exact ⟨ret_int HN.out, HB.out⟩

theorem valid_no1 {b : Bld} (h : liftB b.f b.n b.pos b.sp b.gap b.hold = false) : b.valid = false := by simp [Bld.valid, h]
theorem valid_no2 {b : Bld} (h : callsB b.nu b.nd b.nc b.up b.dn = false) : b.valid = false := by simp [Bld.valid, h]
theorem valid_no3 {b : Bld} (h : b.nu ≠ b.n) : b.valid = false := by simp [Bld.valid, h]
theorem valid_end {b : Bld} (h1 : liftB b.f b.n b.pos b.sp b.gap b.hold = true) (h2 : callsB b.nu b.nd b.nc b.up b.dn = true) (h3 : b.nu = b.n) : b.valid = haltB b.n b.stand b.gap b.fl b.dir b.op := by
  simp only [Bld.valid, h1, h2, Bool.true_and]; simp [h3]

set_option maxHeartbeats 3200000 in
theorem impl_BuildValid {w : World} {B : Nat} {v : Bv} {b : Bld} (hn : b.Small) (hB : B ≤ w.heap.size) (hr : ReadB w B v b) :
    Calls Try.prog 16 #[bval v b] w fun e w' => e = .returned (.bool b.valid) ∧ Below w.heap.size w w' := by
  have HX0 := Lib.hid (Bx.new w (bcells v b) 36)
  have HB0 := Lib.hid ((Below.refl w.heap.size w).alloc (Nat.le_refl _) (.cells (bcells v b) 36))
  have HR0 := Lib.hid (hr.alloc hB (.cells (bcells v b) 36))
  obtain ⟨m0, m1, m2, m3⟩ := hn
  clear hr
  unfold bval bcells at *
  go_enter Try.func16, Try.ntmps16
  go_wp2_with fail
  refine (impl_LiftValid b.pos b.sp b.gap b.hold (by omega) (Nat.le_trans hB HB0.out.size) HR0.out.h).mono ?_
  rintro e w1 ⟨rfl, hb1⟩
  have HX1 := Lib.hid (HX0.out.below hb1 HX0.out.lt)
  have HB1 := Lib.hid (HB0.out.trans (hb1.mono HB0.out.size))
  have HR1 := Lib.hid (HR0.out.below (hb1.mono (Nat.le_trans hB HB0.out.size)))
  clear hb1 HX0 HB0 HR0
  have hx1 := HX1.out.cells
  cases hL : liftB b.f b.n b.pos b.sp b.gap b.hold
  · have HN := Lib.hid (valid_no1 hL)
    go_wp2
    go_ret
    exact ⟨ret_bool HN.out.symm, HB1.out⟩
  · go_wp2_with fail
    refine (impl_CallsValid (by omega) (by omega) (by omega) (Nat.le_trans hB HB1.out.size) HR1.out.u HR1.out.d).mono ?_
    rintro e w2 ⟨rfl, hb2⟩
    have HX2 := Lib.hid (HX1.out.below hb2 HX1.out.lt)
    have HB2 := Lib.hid (HB1.out.trans (hb2.mono HB1.out.size))
    have HR2 := Lib.hid (HR1.out.below (hb2.mono (Nat.le_trans hB HB1.out.size)))
    clear hx1 hb2 HX1 HB1 HR1
    have hx2 := HX2.out.cells
    cases hC : callsB b.nu b.nd b.nc b.up b.dn
    · have HN := Lib.hid (valid_no2 hC)
      go_wp2
      go_ret
      exact ⟨ret_bool HN.out.symm, HB2.out⟩
    · by_cases hu : b.nu = b.n
      · have e1 : ((b.nu : Int) != (b.n : Int)) = false := by simp [hu]
        have HE := Lib.hid (valid_end hL hC hu)
        clear hu hL hC
        have hdir : ((b.dir != 1) = false ∧ Hid (b.dir = 1)) ∨ ((b.dir != 1) = true ∧ (b.dir != -1) = false ∧ Hid (b.dir = -1)) ∨ ((b.dir != 1) = true ∧ (b.dir != -1) = true ∧ Hid (haltB b.n b.stand b.gap b.fl b.dir b.op = false)) := by
          by_cases h1 : b.dir = 1
          · exact .inl ⟨by simp [h1], Lib.hid h1⟩
          · by_cases h2 : b.dir = -1
            · exact .inr (.inl ⟨by simp [h1], by simp [h2], Lib.hid h2⟩)
            · exact .inr (.inr ⟨by simp [h1], by simp [h2], Lib.hid (by simp [haltB, h1, h2])⟩)
        have done : Hid (b.dir = 1 ∨ b.dir = -1) → Hid (haltB b.n b.stand b.gap b.fl b.dir b.op = (if b.fl = -1 then decide (0 ≤ b.stand) else (inB b.fl 0 ((b.n : Int) - 1) && decide (b.gap = 0) && !b.op))) := fun h => Lib.hid (by
          unfold haltB
          rcases h.out with h | h <;> simp [h])
        rcases hdir with ⟨d1, hd⟩ | ⟨d1, d2, hd⟩ | ⟨d1, d2, hd⟩
        · have HD := done (Lib.hid (.inl hd.out))
          clear done
          by_cases hf : b.fl = -1
          · have f1 : (b.fl == -1) = true := by simp [hf]
            have HF : Hid (haltB b.n b.stand b.gap b.fl b.dir b.op = decide (0 ≤ b.stand)) := Lib.hid (by rw [HD.out, if_pos hf])
            clear hf HD
            go_wp2_with fail
            refine (standingFloor_any b.pos b.sp (by omega) (Nat.le_trans hB HB2.out.size) HR2.out.h).mono ?_
            rintro e w3 ⟨rfl, hb3⟩
            have HB3 := Lib.hid (HB2.out.trans (hb3.mono HB2.out.size))
            clear hx2 hb3 HX2 HB2 HR2
            go_wp2
            go_ret
            exact ⟨ret_bool (by rw [HE.out, HF.out]; rfl), HB3.out⟩
          · have f1 : (b.fl == -1) = false := by simp [hf]
            have HF : Hid (haltB b.n b.stand b.gap b.fl b.dir b.op = (inB b.fl 0 ((b.n : Int) - 1) && decide (b.gap = 0) && !b.op)) := Lib.hid (by rw [HD.out, if_neg hf])
            clear hf HD
            go_wp2_with fail
            refine (isFloor_any b.fl b.n _).mono ?_
            rintro e w3 ⟨rfl, rfl⟩
            cases hi : inB b.fl 0 ((b.n : Int) - 1)
            · go_wp2
              go_ret
              exact ⟨ret_bool (by rw [HE.out, HF.out, hi]; rfl), HB2.out⟩
            · cases hg : (b.gap == 0)
              all_goals
                go_wp2
                go_ret
                exact ⟨ret_bool (by rw [HE.out, HF.out, hi]; simp at hg; simp [hg]), HB2.out⟩
        · have HD := done (Lib.hid (.inr hd.out))
          clear done
          by_cases hf : b.fl = -1
          · have f1 : (b.fl == -1) = true := by simp [hf]
            have HF : Hid (haltB b.n b.stand b.gap b.fl b.dir b.op = decide (0 ≤ b.stand)) := Lib.hid (by rw [HD.out, if_pos hf])
            clear hf HD
            go_wp2_with fail
            refine (standingFloor_any b.pos b.sp (by omega) (Nat.le_trans hB HB2.out.size) HR2.out.h).mono ?_
            rintro e w3 ⟨rfl, hb3⟩
            have HB3 := Lib.hid (HB2.out.trans (hb3.mono HB2.out.size))
            clear hx2 hb3 HX2 HB2 HR2
            go_wp2
            go_ret
            exact ⟨ret_bool (by rw [HE.out, HF.out]; rfl), HB3.out⟩
          · have f1 : (b.fl == -1) = false := by simp [hf]
            have HF : Hid (haltB b.n b.stand b.gap b.fl b.dir b.op = (inB b.fl 0 ((b.n : Int) - 1) && decide (b.gap = 0) && !b.op)) := Lib.hid (by rw [HD.out, if_neg hf])
            clear hf HD
            go_wp2_with fail
            refine (isFloor_any b.fl b.n _).mono ?_
            rintro e w3 ⟨rfl, rfl⟩
            cases hi : inB b.fl 0 ((b.n : Int) - 1)
            · go_wp2
              go_ret
              exact ⟨ret_bool (by rw [HE.out, HF.out, hi]; rfl), HB2.out⟩
            · cases hg : (b.gap == 0)
              all_goals
                go_wp2
                go_ret
                exact ⟨ret_bool (by rw [HE.out, HF.out, hi]; simp at hg; simp [hg]), HB2.out⟩
        · go_wp2
          go_ret
          exact ⟨ret_bool (by rw [HE.out, hd.out]), HB2.out⟩
      · have e1 : ((b.nu : Int) != (b.n : Int)) = true := by simp; omega
        have HN := Lib.hid (valid_no3 hu)
        clear hu
        go_wp2
        go_ret
        exact ⟨ret_bool HN.out.symm, HB2.out⟩
end Go.Proofs.Ytailpiagjemhpaa
