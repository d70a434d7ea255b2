/-
  The contracts of RestTicks, in the program and in the reference. No claim stands here.
-/
import Derived.Test.YthkpikkjgggimaaGreatDoorBF
namespace Go.Proofs.YthkpikkjgggimaaGreatDoor
open Go.RowKit
set_option linter.unusedVariables false
set_option linter.unusedSimpArgs false

set_option maxHeartbeats 6400000 in
theorem impl_RestTicks {w : World} {B : Nat} {v : Bv} {b : Bld} (hn : b.Small) (hB : B ≤ w.heap.size) (hr : ReadB w B v b) :
    Calls Tryz.prog 46 #[bval v b] w fun e w' => e = .returned (.int .i64 b.restTicks) ∧ Below w.heap.size w w' := by
  have HX0 := Lib.hid (Bx.new w (bcells v b) 36)
  have HB0 := Lib.hid ((Below.refl w.heap.size w).alloc (Nat.le_refl _) (.cells (bcells v b) 36))
  have HR0 := Lib.hid (hr.alloc hB (.cells (bcells v b) 36))
  have HSm := Lib.hid hn
  clear hr hn
  unfold bval bcells at *
  go_enter Tryz.func46, Tryz.ntmps46
  go_wp2_with fail
  refine (impl_BuildValid (v := v) (b := b) HSm.out (Nat.le_trans hB HB0.out.size) HR0.out).mono ?_
  rintro e w1 ⟨rfl, hb1⟩
  have HX1 := Lib.hid (HX0.out.below hb1 HX0.out.lt)
  have HB1 := Lib.hid (HB0.out.trans (hb1.mono HB0.out.size))
  have HR1 := Lib.hid (HR0.out.below (hb1.mono (Nat.le_trans hB HB0.out.size)))
  clear hb1 HX0 HB0 HR0
  cases hv : b.valid
  · have HE := Lib.hid (restTicks_no hv)
    go_wp2
    go_ret
    exact ⟨ret_int HE.out.symm, HB1.out⟩
  · have HE := Lib.hid (restTicks_yes hv)
    have hok := valid_iff.1 hv
    have HOK := Lib.hid hok
    have HRS := Lib.hid (rest_spec hok)
    have hrb := (rest_bound hok).2
    clear hv hok
    generalize b.rest = R at *
    have HRB := Lib.hid (HR1.out.more (Nat.le_trans hB HB1.out.size))
    go_wp2
    go_loopw [3] (fun s3 wr => ∃ (k : Nat) (v' : Bv) (b' : Bld), s3 = .int .i64 k ∧ k ≤ R ∧ Hid (b' = b.after k) ∧ Hid (Bx wr w.heap.size (bcells v' b')) ∧ Hid (ReadB wr wr.heap.size v' b') ∧ Hid (Below w.heap.size w wr)) (fun s3 _ => R - (intOf s3).toNat)
    case atStart => exact ⟨0, v, b, rfl, by omega, Lib.hid rfl, HX1, HRB, HB1⟩
    case round =>
      obtain ⟨k, v', b', rfl, hk, HK, HX, HR, HB⟩ := hrel
      have HS : Hid b'.Small := Lib.hid (by rw [HK.out]; exact after_small HSm.out k)
      have HT : Hid (b'.ticked false = b.after (k + 1)) := Lib.hid (by rw [HK.out]; exact ticked_after HOK.out k)
      unfold bcells at HX
      have c0 := HX.out.cells
      by_cases hlt : k < R
      · have HQ : Hid (b'.quiet = false) := Lib.hid (by rw [HK.out]; exact HRS.out.2.2 k hlt)
        go_wp2_with fail
        refine (impl_BuildQuiet (v := v') (b := b') HS.out (Nat.le_refl _) HR.out).mono ?_
        rintro e w5 ⟨rfl, hb5⟩
        rw [HQ.out]
        have HX5 := Lib.hid (HX.out.below hb5 HX.out.lt)
        have HB5 := Lib.hid (HB.out.trans (hb5.mono HB.out.size))
        have HR5 := Lib.hid ((HR.out.below hb5).more hb5.size)
        clear hb5 HX HB HR c0
        have c0 := HX5.out.cells
        have z0 := HX5.out.free
        go_wp2_with fail
        refine (impl_BuildTick (v := v') (b := b') false HS.out (Nat.le_refl _) HR5.out).mono ?_
        unfold TickPost
        rw [HT.out]
        rintro e w6 ⟨v6, rfl, ho6, hb6⟩
        have HP := Lib.hid (put_own HX5.out HB5.out (Nat.le_refl _) hb6 ho6)
        have c6 := (HX5.out.below hb6 HX5.out.lt).cells
        have z6 := (HX5.out.below hb6 HX5.out.lt).free
        clear hb6 ho6 c0 z0
        generalize hb6 : b.after (k + 1) = b6 at *
        have HB6 := Lib.hid hb6
        clear hb6
        simp only [bval, bcells]
        go_wp2
        go_roundw
        case rel => exact ⟨k + 1, v6, b6, by go_num, by omega, Lib.hid HB6.out.symm, Lib.hid HP.out.1, Lib.hid HP.out.2.2.read, Lib.hid HP.out.2.1⟩
        case measure => simp [intOf]; omega
      · obtain rfl : k = R := by omega
        have HQ : Hid (b'.quiet = true) := Lib.hid (by rw [HK.out]; exact HRS.out.2.1)
        go_wp2_with fail
        refine (impl_BuildQuiet (v := v') (b := b') HS.out (Nat.le_refl _) HR.out).mono ?_
        rintro e w5 ⟨rfl, hb5⟩
        rw [HQ.out]
        have HB5 := Lib.hid (HB.out.trans (hb5.mono HB.out.size))
        clear hb5 c0
        go_wp2
        go_ret
        exact ⟨ret_int HE.out.symm, HB5.out⟩
set_option maxHeartbeats 6400000 in
theorem spec_RestTicks {w : World} {B : Nat} {v : Bv} {b : Bld} (hn : b.Small) (hB : B ≤ w.heap.size) (hr : ReadB w B v b) :
    Calls Tryz.prog 59 #[bval v b] w fun e w' => e = .returned (.int .i64 b.restTicks) ∧ Below w.heap.size w w' := by
  have HX0 := Lib.hid (Bx.new w (bcells v b) 36)
  have HB0 := Lib.hid ((Below.refl w.heap.size w).alloc (Nat.le_refl _) (.cells (bcells v b) 36))
  have HR0 := Lib.hid (hr.alloc hB (.cells (bcells v b) 36))
  have HSm := Lib.hid hn
  clear hr hn
  unfold bval bcells at *
  go_enter Tryz.func59, Tryz.ntmps59
  go_wp2_with fail
  refine (spec_BuildValid (v := v) (b := b) HSm.out (Nat.le_trans hB HB0.out.size) HR0.out).mono ?_
  rintro e w1 ⟨rfl, hb1⟩
  have HX1 := Lib.hid (HX0.out.below hb1 HX0.out.lt)
  have HB1 := Lib.hid (HB0.out.trans (hb1.mono HB0.out.size))
  have HR1 := Lib.hid (HR0.out.below (hb1.mono (Nat.le_trans hB HB0.out.size)))
  clear hb1 HX0 HB0 HR0
  cases hv : b.valid
  · have HE := Lib.hid (restTicks_no hv)
    go_wp2
    go_ret
    exact ⟨ret_int HE.out.symm, HB1.out⟩
  · have HE := Lib.hid (restTicks_yes hv)
    have hok := valid_iff.1 hv
    have HOK := Lib.hid hok
    have HRS := Lib.hid (rest_spec hok)
    have hrb := (rest_bound hok).2
    clear hv hok
    generalize b.rest = R at *
    have HRB := Lib.hid (HR1.out.more (Nat.le_trans hB HB1.out.size))
    go_wp2
    go_loopw [3] (fun s3 wr => ∃ (k : Nat) (v' : Bv) (b' : Bld), s3 = .int .i64 k ∧ k ≤ R ∧ Hid (b' = b.after k) ∧ Hid (Bx wr w.heap.size (bcells v' b')) ∧ Hid (ReadB wr wr.heap.size v' b') ∧ Hid (Below w.heap.size w wr)) (fun s3 _ => R - (intOf s3).toNat)
    case atStart => exact ⟨0, v, b, rfl, by omega, Lib.hid rfl, HX1, HRB, HB1⟩
    case round =>
      obtain ⟨k, v', b', rfl, hk, HK, HX, HR, HB⟩ := hrel
      have HS : Hid b'.Small := Lib.hid (by rw [HK.out]; exact after_small HSm.out k)
      have HT : Hid (b'.ticked false = b.after (k + 1)) := Lib.hid (by rw [HK.out]; exact ticked_after HOK.out k)
      unfold bcells at HX
      have c0 := HX.out.cells
      by_cases hlt : k < R
      · have HQ : Hid (b'.quiet = false) := Lib.hid (by rw [HK.out]; exact HRS.out.2.2 k hlt)
        go_wp2_with fail
        refine (spec_BuildQuiet (v := v') (b := b') HS.out (Nat.le_refl _) HR.out).mono ?_
        rintro e w5 ⟨rfl, hb5⟩
        rw [HQ.out]
        have HX5 := Lib.hid (HX.out.below hb5 HX.out.lt)
        have HB5 := Lib.hid (HB.out.trans (hb5.mono HB.out.size))
        have HR5 := Lib.hid ((HR.out.below hb5).more hb5.size)
        clear hb5 HX HB HR c0
        have c0 := HX5.out.cells
        have z0 := HX5.out.free
        go_wp2_with fail
        refine (spec_BuildTick (v := v') (b := b') false HS.out (Nat.le_refl _) HR5.out).mono ?_
        unfold TickPost
        rw [HT.out]
        rintro e w6 ⟨v6, rfl, ho6, hb6⟩
        have HP := Lib.hid (put_own HX5.out HB5.out (Nat.le_refl _) hb6 ho6)
        have c6 := (HX5.out.below hb6 HX5.out.lt).cells
        have z6 := (HX5.out.below hb6 HX5.out.lt).free
        clear hb6 ho6 c0 z0
        generalize hb6 : b.after (k + 1) = b6 at *
        have HB6 := Lib.hid hb6
        clear hb6
        simp only [bval, bcells]
        go_wp2
        go_roundw
        case rel => exact ⟨k + 1, v6, b6, by go_num, by omega, Lib.hid HB6.out.symm, Lib.hid HP.out.1, Lib.hid HP.out.2.2.read, Lib.hid HP.out.2.1⟩
        case measure => simp [intOf]; omega
      · obtain rfl : k = R := by omega
        have HQ : Hid (b'.quiet = true) := Lib.hid (by rw [HK.out]; exact HRS.out.2.1)
        go_wp2_with fail
        refine (spec_BuildQuiet (v := v') (b := b') HS.out (Nat.le_refl _) HR.out).mono ?_
        rintro e w5 ⟨rfl, hb5⟩
        rw [HQ.out]
        have HB5 := Lib.hid (HB.out.trans (hb5.mono HB.out.size))
        clear hb5 c0
        go_wp2
        go_ret
        exact ⟨ret_int HE.out.symm, HB5.out⟩
end Go.Proofs.YthkpikkjgggimaaGreatDoor
