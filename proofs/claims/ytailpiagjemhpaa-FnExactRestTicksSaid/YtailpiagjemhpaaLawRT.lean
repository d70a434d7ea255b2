/-
  The law FnExactRestTicks: the walk. No claim stands here.
-/
import Derived.Test.YtailpiagjemhpaaBJ
import Derived.Deep.RegionHeld3
namespace Go.Proofs.Ytailpiagjemhpaa
open Go.RowKit
set_option linter.unusedVariables false
set_option linter.unusedSimpArgs false

set_option maxHeartbeats 3200000 in
theorem law_ExactRestTicks {w : World} {v : Bv} {b : Bld} (hn : b.n ≤ 9223372036854775807) (n1 : b.nu ≤ 9223372036854775807) (n2 : b.nd ≤ 9223372036854775807) (n3 : b.nc ≤ 9223372036854775807) (hr : ReadB w w.heap.size v b) :
    Calls Try.prog 9 #[bval v b] w fun e w' => e = .returned (.bool true) ∧ Below w.heap.size w w' := by
  have HX0 := Lib.hid (Bx.new w (bcells v b) 65)
  have HB0 := Lib.hid ((Below.refl w.heap.size w).alloc (Nat.le_refl _) (.cells (bcells v b) 65))
  have HR := Lib.hid hr
  have HBV : Hid (bval v b = .agg #[.slice v.A b.n v.c, .int .i64 b.pos, .int .i64 b.sp, .int .i64 b.gap, .int .i64 b.hold, .slice v.U b.nu v.cu, .slice v.D b.nd v.cd, .slice v.C b.nc v.cc, .int .i64 b.fl, .int .i64 b.dir, .bool b.op]) := Lib.hid rfl
  clear hr
  unfold bval bcells at *
  go_enter Try.func9, Try.ntmps9
  go_wp2_with fail
  refine (szBuilding_any hn n1 n2 n3).mono ?_
  rintro e w1 ⟨x, rfl, hx, hb1⟩
  have HX1 := Lib.hid (HX0.out.below hb1 HX0.out.lt)
  have HB1 := Lib.hid (HB0.out.trans (hb1.mono HB0.out.size))
  clear hb1 HX0 HB0
  have c0 := HX1.out.cells
  rcases hx with hx | ⟨x0, x1, x2, x3, x4⟩
  · go_wp2
    go_ret
    exact ⟨rfl, HB1.out⟩
  · have HSm : Hid b.Small := Lib.hid ⟨by omega, by omega, by omega, by omega⟩
    clear hn n1 n2 n3
    have HR1 := Lib.hid (HR.out.below HB1.out)
    go_wp2_with fail
    refine (toBuilding_any (by omega) (by omega) (by omega) (by omega) HB1.out.size HR1.out).mono ?_
    rintro e w2 ⟨v2, rfl, ho2, hb2⟩
    simp only [bval, bcells]
    have HX2 := Lib.hid (HX1.out.below hb2 HX1.out.lt)
    have HB2 := Lib.hid (HB1.out.trans (hb2.mono HB1.out.size))
    have HO2 := Lib.hid ho2
    clear hb2 HX1 HR1 HB1 ho2 c0
    have c0 := HX2.out.cells
    go_wp2_with fail
    refine (spec_RestTicks (v := v2) (b := b) HSm.out (Nat.le_refl _) HO2.out.read).mono ?_
    rintro e w3 ⟨rfl, hb3⟩
    have HX3 := Lib.hid (HX2.out.below hb3 HX2.out.lt)
    have HB3 := Lib.hid (HB2.out.trans (hb3.mono HB2.out.size))
    clear hb3 HX2 HB2 c0 HO2
    have c0 := HX3.out.cells
    go_wp2_with fail
    refine (toBuilding_any (by omega) (by omega) (by omega) (by omega) HB3.out.size (HR.out.below HB3.out)).mono ?_
    rintro e w4 ⟨v4, rfl, ho4, hb4⟩
    simp only [bval, bcells]
    have HX4 := Lib.hid (HX3.out.below hb4 HX3.out.lt)
    have HB4 := Lib.hid (HB3.out.trans (hb4.mono HB3.out.size))
    have HO4 := Lib.hid ho4
    clear hb4 HX3 HB3 c0 ho4
    have c0 := HX4.out.cells
    go_wp2_with fail
    refine (impl_RestTicks (v := v4) (b := b) HSm.out (Nat.le_refl _) ((HO4.out.read.alloc (Nat.le_refl _) _).more (by simp))).mono ?_
    rintro e w5 ⟨rfl, hb5⟩
    have HX5 := Lib.hid ((HX4.out.alloc _).below hb5 (HX4.out.alloc _).lt)
    have HY5 := Lib.hid (box_kept hb5)
    have HB5 := Lib.hid (HB4.out.trans ((boxed hb5).mono HB4.out.size))
    have HO5 := Lib.hid (HO4.out.below (boxed hb5) (Nat.le_refl _))
    have hlt5 := HY5.out.lt
    clear hb5 HX4 HB4 HO4 c0
    have c0 := HX5.out.cells
    have c1 := HY5.out.cells
    generalize hV : b.restTicks = V at *
    clear hV
    go_wp2
    go_region_held3 (fun w' => (∀ o, w'.cell? ⟨w.heap.size, o, none⟩ = (#[.slice v.A b.n v.c, .int .i64 b.pos, .int .i64 b.sp, .int .i64 b.gap, .int .i64 b.hold, .slice v.U b.nu v.cu, .slice v.D b.nd v.cd, .slice v.C b.nc v.cc, .int .i64 b.fl, .int .i64 b.dir, .bool b.op] : Array Value)[o]?) ∧ (∀ o, w'.cell? ⟨w4.heap.size, o, none⟩ = (#[.slice v4.A b.n v4.c, .int .i64 b.pos, .int .i64 b.sp, .int .i64 b.gap, .int .i64 b.hold, .slice v4.U b.nu v4.cu, .slice v4.D b.nd v4.cd, .slice v4.C b.nc v4.cc, .int .i64 b.fl, .int .i64 b.dir, .bool b.op] : Array Value)[o]?)) (first | exact ⟨HX5.out.cells, HY5.out.cells⟩ | exact ⟨HX6.out.cells, HY6.out.cells⟩ | exact ⟨(HX6.out.below hb7 HX6.out.lt).cells, (HY6.out.below hb7 HY6.out.lt).cells⟩) (first
      | (go_at_call 41; refine (toBuilding_any (v := v) (b := b) (by omega) (by omega) (by omega) (by omega) HB5.out.drew.size (HR.out.below HB5.out.drew)).mono ?_; rintro e w6 ⟨v6, rfl, ho6, hb6⟩; simp only [bval, bcells]; have HX6 := Lib.hid (HX5.out.below (w := w5.drew) hb6 HX5.out.lt); have HY6 := Lib.hid (HY5.out.below (w := w5.drew) hb6 HY5.out.lt))
      | (go_at_call 42; refine (eqBuilding_same (v := v4) (v' := v6) (b := b) HSm.out (Nat.le_refl _) (Nat.le_refl _) ((HO5.out.below (Below.refl w5.heap.size w5).drew (Nat.le_refl _)).below hb6 (Nat.le_refl _)).read ho6.read).mono ?_; rintro e w7 ⟨rfl, hb7⟩))
    have HB7 := Lib.hid (HB5.out.drew.trans (((hb6.trans (hb7.mono hb6.size))).mono HB5.out.drew.size))
    clear hb6 hb7 HX6 HY6 ho6 c0 c1
    go_wp2
    go_ret
    exact ⟨rfl, HB7.out⟩
end Go.Proofs.Ytailpiagjemhpaa
