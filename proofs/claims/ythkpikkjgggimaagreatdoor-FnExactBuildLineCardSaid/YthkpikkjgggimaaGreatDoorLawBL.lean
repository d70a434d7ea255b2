/-
  The law FnExactBuildLine: the walk. No claim stands here.
-/
import Derived.Test.YthkpikkjgggimaaGreatDoorHeld
import Derived.Test.YthkpikkjgggimaaGreatDoorLineS
import Derived.Deep.RegionHeld3
namespace Go.Proofs.YthkpikkjgggimaaGreatDoor
open Go.RowKit
set_option linter.unusedVariables false
set_option linter.unusedSimpArgs false

set_option maxRecDepth 100000 in
set_option maxHeartbeats 12800000 in
theorem law_ExactBuildLineIn {w : World} {v : Bv} {b : Bld} (hn : b.n ≤ 9223372036854775807) (n1 : b.nu ≤ 9223372036854775807) (n2 : b.nd ≤ 9223372036854775807) (n3 : b.nc ≤ 9223372036854775807) (hr : ReadB w w.heap.size v b) (s : ByteArray) (hs : s.size ≤ 1048576) (hh : Here w) :
    Calls Tryz.prog 4 #[bval v b, .string s] w fun e w' => e = .returned (.bool true) ∧ Below w.heap.size w w' := by
  have HX0 := Lib.hid (Bx.new w (bcells v b) 55)
  have HB0 := Lib.hid ((Below.refl w.heap.size w).alloc (Nat.le_refl _) (.cells (bcells v b) 55))
  have HR := Lib.hid hr
  have HH := Lib.hid hh
  clear hr hh
  unfold bval bcells at *
  go_enter Tryz.func4, Tryz.ntmps4
  go_wp2_with fail
  refine (szBuilding_any hn n1 n2 n3).mono ?_
  rintro e w1 ⟨x, rfl, hx, hb1⟩
  have HX1 := Lib.hid (HX0.out.below hb1 HX0.out.lt)
  have HB1 := Lib.hid (HB0.out.trans (hb1.mono HB0.out.size))
  clear hb1 HX0 HB0
  have c0 := HX1.out.cells
  rcases hx with hx | ⟨x0, x1, x2, x3, x4⟩
  · go_wp2
    go_ret
    exact ⟨rfl, HB1.out⟩
  · have HSm : Hid b.Small := Lib.hid ⟨by omega, by omega, by omega, by omega⟩
    clear hn n1 n2 n3
    have HBS : Hid (b.n ≤ 1000000000 ∧ b.nu ≤ 1000000000 ∧ b.nd ≤ 1000000000 ∧ b.nc ≤ 1000000000) := Lib.hid ⟨by omega, by omega, by omega, by omega⟩
    clear x1 x2 x3 x4
    have HTO : Hid (∀ W : World, Below w.heap.size w W → Calls Tryz.prog 18 #[bval v b] W fun e w' => ∃ v', e = .returned (bval v' b) ∧ OwnB w' W.heap.size v' b ∧ Below W.heap.size W w') :=
      Lib.hid (fun W hW => toBuilding_any (by have := HBS.out; omega) (by have := HBS.out; omega) (by have := HBS.out; omega) (by have := HBS.out; omega) hW.size (HR.out.below hW))
    have HRS := Lib.hid (lined_small HSm.out s)
    have HSP : Hid (∀ (W : World) (v' : Bv), Below w.heap.size w W → ReadB W W.heap.size v' b → Calls Tryz.prog 17 #[bval v' b, .string s] W (LinePost b s W)) := Lib.hid (fun W v' hb h => spec_BuildLine s hs HSm.out (Nat.le_refl _) h (HH.out.below hb))
    have HIM : Hid (∀ (W : World) (v' : Bv), Below w.heap.size w W → ReadB W W.heap.size v' b → Calls Tryz.prog 15 #[bval v' b, .string s] W (LinePost b s W)) := Lib.hid (fun W v' hb h => impl_BuildLine s hs HSm.out (Nat.le_refl _) h (HH.out.below hb))
    unfold LinePost at HSP HIM
    generalize b.lined s = r at *
    generalize ByteArray.mk (b.says s).toArray = ok at *
    go_wp2_with fail
    refine (HTO.out _ HB1.out).mono ?_
    rintro e w2 ⟨v1, rfl, ho2, hb2⟩
    clear x0
    simp only [bval, bcells]
    have HX2 := Lib.hid (HX1.out.below hb2 HX1.out.lt)
    have HB2 := Lib.hid (HB1.out.trans (hb2.mono HB1.out.size))
    have HO2 := Lib.hid ho2
    have q2 := HX2.out.lt
    clear hb2 ho2 c0 HX1 HB1
    have c0 := HX2.out.cells
    go_wp2_with fail
    refine (HSP.out _ v1 HB2.out HO2.out.read).mono ?_
    rintro e w3 ⟨vw, rfl, ho3, hb3⟩
    simp only [bval, bcells]
    have HX3 := Lib.hid ((HX2.out.below hb3 HX2.out.lt).alloc (.cells (bcells vw r) 36))
    have HB3 := Lib.hid ((HB2.out.trans (hb3.mono HB2.out.size)).alloc (Nat.le_trans HB2.out.size hb3.size) (.cells (bcells vw r) 36))
    have HW3 := Lib.hid (Held.new ho3 36)
    have q3 : w2.heap.size ≤ w3.heap.size := hb3.size
    clear hb3 ho3 c0 HX2 HB2 HO2
    unfold bcells at HX3 HB3 HW3
    have c0 := HX3.out.cells
    go_wp2_with fail
    refine (HTO.out _ HB3.out).mono ?_
    rintro e w4 ⟨vx, rfl, ho4, hb4⟩
    simp only [bval, bcells]
    have HX4 := Lib.hid ((HX3.out.below hb4 HX3.out.lt).alloc (.cells (bcells vx b) 36))
    have HB4 := Lib.hid ((HB3.out.trans (hb4.mono HB3.out.size)).alloc (Nat.le_trans HB3.out.size hb4.size) (.cells (bcells vx b) 36))
    have HW4 := Lib.hid ((HW3.out.call hb4).alloc (.cells (bcells vx b) 36))
    have HK4 := Lib.hid (Held.new ho4 36)
    have q4 : w3.heap.size + 1 ≤ w4.heap.size := by have := hb4.size; simpa using this
    clear hb4 ho4 c0 HX3 HB3 HW3
    unfold bcells at HX4 HB4 HW4 HK4
    have c0 := HX4.out.cells
    have c2 := HK4.out.cells
    go_wp2_with fail
    refine (HIM.out _ vx HB4.out HK4.out.read).mono ?_
    rintro e w5 ⟨vg, rfl, ho5, hb5⟩
    simp only [bval, bcells]
    have HX5 := Lib.hid ((HX4.out.below hb5 HX4.out.lt).alloc (.cells (bcells vg r) 36))
    have HB5 := Lib.hid ((HB4.out.trans (hb5.mono HB4.out.size)).alloc (Nat.le_trans HB4.out.size hb5.size) (.cells (bcells vg r) 36))
    have HW5 := Lib.hid ((HW4.out.call hb5).alloc (.cells (bcells vg r) 36))
    have HK5 := Lib.hid ((HK4.out.call hb5).alloc (.cells (bcells vg r) 36))
    have HG5 := Lib.hid (Held.new ho5 36)
    have q5 : w4.heap.size + 1 ≤ w5.heap.size := by have := hb5.size; simpa using this
    clear hb5 ho5 c0 c2 HX4 HB4 HW4 HK4
    unfold bcells at HX5 HB5 HW5 HK5 HG5
    have c1 := HW5.out.cells
    have c3 := HG5.out.cells
    go_wp2_with fail
    refine (eqBuilding_same (b := r) HRS.out (Nat.le_refl _) (Nat.le_refl _) HG5.out.read HW5.out.read).mono ?_
    rintro e w6 ⟨rfl, hb6⟩
    have HW6 := Lib.hid (HW5.out.call hb6)
    have HK6 := Lib.hid (HK5.out.call hb6)
    have HG6 := Lib.hid (HG5.out.call hb6)
    have HX6 := Lib.hid (HX5.out.below hb6 HX5.out.lt)
    have HB6 := Lib.hid (HB5.out.trans (hb6.mono HB5.out.size))
    clear hb6 HW5 HK5 HG5 HX5 HB5 c1 c3
    have c0 := HX6.out.cells
    have c2 := HK6.out.cells
    go_wp2
    go_region_held3 (fun w' => (∀ o, w'.cell? ⟨w.heap.size, o, none⟩ = (#[.slice v.A b.n v.c, .int .i64 b.pos, .int .i64 b.sp, .int .i64 b.gap, .int .i64 b.hold, .slice v.U b.nu v.cu, .slice v.D b.nd v.cd, .slice v.C b.nc v.cc, .int .i64 b.fl, .int .i64 b.dir, .bool b.op] : Array Value)[o]?) ∧ (∀ o, w'.cell? ⟨w4.heap.size, o, none⟩ = (#[.slice vx.A b.n vx.c, .int .i64 b.pos, .int .i64 b.sp, .int .i64 b.gap, .int .i64 b.hold, .slice vx.U b.nu vx.cu, .slice vx.D b.nd vx.cd, .slice vx.C b.nc vx.cc, .int .i64 b.fl, .int .i64 b.dir, .bool b.op] : Array Value)[o]?)) (first | exact ⟨HX6.out.cells, HK6.out.cells⟩ | exact ⟨HX7.out.cells, HK7.out.cells⟩ | exact ⟨HX8.out.cells, HK8.out.cells⟩) (first
      | (go_at_call 18; refine (HTO.out _ HB6.out.drew).mono ?_; rintro e w7 ⟨v7, rfl, ho7, hb7⟩; simp only [bval, bcells]; have HX7 := Lib.hid (HX6.out.below (w := w6.drew) hb7 HX6.out.lt); have HK7 := Lib.hid (HK6.out.drew.call hb7); have HW7 := Lib.hid (HW6.out.drew.call hb7); have HG7 := Lib.hid (HG6.out.drew.call hb7); have HB7 := Lib.hid (HB6.out.drew.trans (hb7.mono HB6.out.size)))
      | (go_at_call 19; refine (eqBuilding_same (v := vx) (v' := v7) (b := b) HSm.out (Nat.le_refl _) (Nat.le_refl _) HK7.out.read ho7.read).mono ?_; rintro e w8 ⟨rfl, hb8⟩; have HX8 := Lib.hid (HX7.out.below hb8 HX7.out.lt); have HK8 := Lib.hid (HK7.out.call hb8); have HW8 := Lib.hid (HW7.out.call hb8); have HG8 := Lib.hid (HG7.out.call hb8); have HB8 := Lib.hid (HB7.out.trans (hb8.mono HB7.out.size)); have c8 := HK8.out.cells))
    clear hb7 hb8 ho7 HX6 HK6 HW6 HG6 HB6 HX7 HK7 HW7 HG7 HB7 c0 c2
    go_wp2_with fail
    refine (markBuilding_any 1 HSm.out (by omega) (by omega) HK8.out.o HK8.out.i HK8.out.top).mono ?_
    rintro e w9 ⟨rfl, ho9, hw9⟩
    have HX9 := Lib.hid (HX8.out.within hw9 (.inl (by first | omega | (simp; omega) | simp)))
    have HB9 := Lib.hid (HB8.out.trans (hw9.below (by first | omega | (simp; omega) | simp) HB8.out.size))
    have HW9 := Lib.hid (HW8.out.within hw9 (.inl (by first | omega | (simp; omega) | simp)) (.inl (by first | omega | (simp; omega) | simp)))
    have HG9 := Lib.hid (HG8.out.within hw9 (.inr (by first | omega | (simp; omega) | simp)) (.inr (by first | omega | (simp; omega) | simp)))
    clear ho9 hw9 c8 HX8 HB8 HW8 HG8 HK8
    have hM : (0 : Int) ≤ 1 + b.n + b.nu + b.nd + b.nc := by omega
    generalize (1 : Int) + b.n + b.nu + b.nd + b.nc = M at *
    have c1 := HW9.out.cells
    have c3 := HG9.out.cells
    go_wp2_with fail
    refine (eqBuilding_same (b := r) HRS.out (Nat.le_refl _) (Nat.le_refl _) HG9.out.read HW9.out.read).mono ?_
    rintro e w10 ⟨rfl, hb10⟩
    have HW10 := Lib.hid (HW9.out.call hb10)
    have HG10 := Lib.hid (HG9.out.call hb10)
    have HX10 := Lib.hid (HX9.out.below hb10 HX9.out.lt)
    have HB10 := Lib.hid (HB9.out.trans (hb10.mono HB9.out.size))
    clear hb10 HW9 HG9 HX9 HB9 c1 c3
    have c3 := HG10.out.cells
    go_wp2_with fail
    refine (markBuilding_any 1 HRS.out (by omega) (by omega) HG10.out.o HG10.out.i HG10.out.top).mono ?_
    rintro e w11 ⟨rfl, ho11, hw11⟩
    have HX11 := Lib.hid (HX10.out.within hw11 (.inl (by first | omega | (simp; omega) | simp)))
    have HB11 := Lib.hid (HB10.out.trans (hw11.below (by first | omega | (simp; omega) | simp) HB10.out.size))
    have HW11 := Lib.hid (HW10.out.within hw11 (.inl (by first | omega | (simp; omega) | simp)) (.inl (by first | omega | (simp; omega) | simp)))
    have HG11 := Lib.hid (HG10.out.marked ho11 hw11)
    clear ho11 hw11 c3 HX10 HB10 HW10 HG10
    have c3 := HG11.out.cells
    go_wp2_with fail
    refine (heldBuilding_same (b := r) 1 HRS.out (by omega) (by omega) (Nat.le_refl _) HG11.out.read).mono ?_
    rintro e w12 ⟨rfl, hb12⟩
    have HW12 := Lib.hid (HW11.out.call hb12)
    have HG12 := Lib.hid (HG11.out.call hb12)
    have HX12 := Lib.hid (HX11.out.below hb12 HX11.out.lt)
    have HB12 := Lib.hid (HB11.out.trans (hb12.mono HB11.out.size))
    clear hb12 HW11 HG11 HX11 HB11 c3
    have hN : (0 : Int) ≤ 1 + r.n + r.nu + r.nd + r.nc := by omega
    generalize hNN : (1 : Int) + r.n + r.nu + r.nd + r.nc = N at *
    have HNN := Lib.hid hNN
    clear hNN
    have c0 := HX12.out.cells
    go_wp2_with fail
    refine (HTO.out _ HB12.out).mono ?_
    rintro e w13 ⟨vh0, rfl, ho13, hb13⟩
    simp only [bval, bcells]
    have HW13 := Lib.hid (HW12.out.call hb13)
    have HG13 := Lib.hid (HG12.out.call hb13)
    have HX13 := Lib.hid (HX12.out.below hb13 HX12.out.lt)
    have HB13 := Lib.hid (HB12.out.trans (hb13.mono HB12.out.size))
    have HO13 := Lib.hid ho13
    clear ho13 hb13 HW12 HG12 HX12 HB12 c0
    go_wp2_with fail
    refine (HIM.out _ vh0 HB13.out HO13.out.read).mono ?_
    rintro e w14 ⟨vh, rfl, ho14, hb14⟩
    simp only [bval, bcells]
    have HW14 := Lib.hid ((HW13.out.call hb14).alloc (.cells (bcells vh r) 36))
    have HG14 := Lib.hid ((HG13.out.call hb14).alloc (.cells (bcells vh r) 36))
    have HB14 := Lib.hid ((HB13.out.trans (hb14.mono HB13.out.size)).alloc (Nat.le_trans HB13.out.size hb14.size) (.cells (bcells vh r) 36))
    have HH14 := Lib.hid (Held.new ho14 36)
    have HX14 := Lib.hid ((HX13.out.below hb14 HX13.out.lt).alloc (.cells (bcells vh r) 36))
    clear hb14 ho14 HX13 HB13 HW13 HG13 HO13
    unfold bcells at HB14 HW14 HG14 HH14 HX14
    have c1 := HW14.out.cells
    have c4 := HH14.out.cells
    go_wp2_with fail
    refine (eqBuilding_same (b := r) HRS.out (Nat.le_refl _) (Nat.le_refl _) HH14.out.read HW14.out.read).mono ?_
    rintro e w15 ⟨rfl, hb15⟩
    have HW15 := Lib.hid (HW14.out.call hb15)
    have HG15 := Lib.hid (HG14.out.call hb15)
    have HX15 := Lib.hid (HX14.out.below hb15 HX14.out.lt)
    have HB15 := Lib.hid (HB14.out.trans (hb15.mono HB14.out.size))
    clear hb15 HW14 HG14 HX14 HB14 c1 c4
    have c3 := HG15.out.cells
    go_wp2_with fail
    refine (heldBuilding_same (b := r) 1 HRS.out (by omega) (by omega) (Nat.le_refl _) HG15.out.read).mono ?_
    rintro e w16 ⟨rfl, hb16⟩
    have HB16 := Lib.hid (HB15.out.trans (hb16.mono HB15.out.size))
    clear hb16 c3
    rw [HNN.out]
    go_wp2
    go_ret
    exact ⟨rfl, HB16.out⟩

theorem law_ExactBuildLine {w : World} {v : Bv} {b : Bld} (hn : b.n ≤ 9223372036854775807) (n1 : b.nu ≤ 9223372036854775807) (n2 : b.nd ≤ 9223372036854775807) (n3 : b.nc ≤ 9223372036854775807) (hr : ReadB w w.heap.size v b) (s : ByteArray) (hs : s.size ≤ maxLen) (hh : Here w) :
    Calls Tryz.prog 4 #[bval v b, .string s] w fun e w' => e = .returned (.bool true) ∧ Below w.heap.size w w' := by
  by_cases h20 : s.size ≤ 1048576
  · exact law_ExactBuildLineIn hn n1 n2 n3 hr s h20 hh
  · have HB0 := Lib.hid ((Below.refl w.heap.size w).alloc (Nat.le_refl _) (.cells (bcells v b) 55))
    unfold maxLen at hs
    have hlt : ((1048576 : Int) < (s.size : Int)) := by omega
    unfold bval bcells at *
    go_enter Tryz.func4, Tryz.ntmps4
    go_wp2
    go_ret
    exact ⟨rfl, HB0.out⟩
end Go.Proofs.YthkpikkjgggimaaGreatDoor
