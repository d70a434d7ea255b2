/-
  The law FnBuildQuiet: the walk. No claim stands here.
-/
import Derived.Test.YtnbjibkbjdbadaaLB
import Derived.Test.YtnbjibkbjdbadaaDrawH
import Derived.Test.YtnbjibkbjdbadaaVisM
import Derived.Deep.RegionHeld3
namespace Go.Proofs.Ytnbjibkbjdbadaa
open Go.RowKit
set_option linter.unusedVariables false
set_option linter.unusedSimpArgs false

theorem quiet_valid {b : Bld} (h : b.quiet = true) : b.valid = true := by
  cases hv : b.valid
  · rw [quiet_no hv] at h; cases h
  · rfl
theorem quiet_tick {b : Bld} (h : b.quiet = true) (bl : Bool) : b.ticked bl = b := by
  have hv := quiet_valid h
  have hok := valid_iff.1 hv
  obtain ⟨q1, q2, q3, q4⟩ := (quiet_iff hok).1 h
  unfold Bld.ticked
  rw [if_pos hv]
  have hg : ¬ (0 < b.gap ∨ b.op = true) := by rw [q3, q4]; simp
  rw [tick_look hg (by omega)]
  rcases look_kinds hok q2 with hl | ⟨_, _, k3, k4⟩
  · exact hl
  · exfalso
    obtain ⟨_, _, _, hn1, _⟩ := hok.sizes
    have hc := served_call (b := b) k4
    have hn0 : 0 ≤ b.nextF := by assumption
    have hk : b.nextF.toNat < b.n := by omega
    unfold Bld.cnt at q1
    have c1 := cntB_zero.1 (show cntB b.up b.n = 0 by omega) _ hk
    have c2 := cntB_zero.1 (show cntB b.dn b.n = 0 by omega) _ hk
    have c3 := cntB_zero.1 (show cntB b.car b.n = 0 by omega) _ hk
    unfold Bld.callAt at hc
    rw [c1, c2, c3] at hc
    cases hc
theorem cntB_pos {p : Nat → Bool} {n k : Nat} (hk : k < n) (h : p k = true) : 0 < cntB p n := by
  rcases Nat.eq_zero_or_pos (cntB p n) with h0 | h0
  · have := cntB_zero.1 h0 k hk
    rw [h] at this; cases this
  · exact h0
theorem quiet_called {b : Bld} (h : b.quiet = true) : (b.called 2 0).quiet = false := by
  have hv := quiet_valid h
  have hok := valid_iff.1 hv
  obtain ⟨z1, z2, z3, z4, z5⟩ := hok.sizes
  have hc := hok.calls
  rw [z1, z2, z3] at hc
  obtain ⟨_, _, _, _, hu, hd⟩ := callsB_iff.1 hc
  have hso : setOk b.n b.up b.dn 2 0 true = true := by
    have i1 : inB 2 0 2 = true := by decide
    have i2 : inB 0 0 ((b.n : Int) - 1) = true := inB_iff.2 (by omega)
    simp [setOk, setUp, setDn, hu, hd, i1, i2]
  have hcar : (b.ask 2 0).car 0 = true := by
    show askCar b.n b.up b.dn b.car 2 0 true 0 = true
    unfold askCar
    rw [if_pos hso]
    simp [setCar, updB]
  unfold Bld.called
  rw [if_pos hv]
  cases hq : (b.ask 2 0).quiet
  · rfl
  · exfalso
    have h1 := ((quiet_iff (Bld.ask_valid hok 2 0)).1 hq).1
    have h2 := cntB_pos (n := b.n) (by omega) hcar
    unfold Bld.cnt at h1
    have : (b.ask 2 0).n = b.n := rfl
    rw [this] at h1
    omega

set_option maxRecDepth 8000 in
set_option maxHeartbeats 12800000 in
theorem law_BuildQuiet {w : World} {A : Option Addr} {n c : Nat} {h : Nat → Int} (hc : n ≤ c) (hs : Bytes w w.heap.size A n h) :
    Calls Try.prog 6 #[.slice A n c] w fun e w' => e = .returned (.bool true) ∧ Below w.heap.size w w' := by
  by_cases h20 : n ≤ 1048576
  · go_enter Try.func6, Try.ntmps6
    go_wp2_with fail
    refine (DrawBuildQuiet_any (Nat.le_refl _) hc hs).mono ?_
    rintro e w1 ⟨v, b, rfl, hr1, hu, hb1⟩
    have HSm := Lib.hid (hu.small (by omega))
    have HL := Lib.hid (LB.new 36 hr1 hb1)
    clear hr1 hu hb1 hs
    unfold bcells at HL
    simp only [bval, bcells]
    have c0 := HL.out.cells
    go_wp2_with fail
    refine (impl_BuildQuiet (v := v) (b := b) HSm.out (Nat.le_refl _) HL.out.read).mono ?_
    rintro e w2 ⟨rfl, hb2⟩
    have HL2 := Lib.hid (HL.out.call hb2)
    clear hb2 HL c0
    have c0 := HL2.out.cells
    go_wp2_with fail
    refine (spec_BuildQuiet (v := v) (b := b) HSm.out (Nat.le_refl _) HL2.out.read).mono ?_
    rintro e w3 ⟨rfl, hb3⟩
    have HL3 := Lib.hid (HL2.out.call hb3)
    clear hb3 HL2 c0
    have c0 := HL3.out.cells
    cases hq : b.quiet
    · clear hq
      go_wp2_with fail
      refine alive_any.mono ?_
      rintro e w5 ⟨rfl, hb5⟩
      have HL5 := Lib.hid (HL3.out.call hb5)
      clear hb5 HL3
      go_wp2
      go_ret
      exact ⟨rfl, HL5.out.o⟩
    · have HT0 := Lib.hid (quiet_tick hq false)
      have HT1 := Lib.hid (quiet_tick hq true)
      have HC := Lib.hid (quiet_called hq)
      have HCS := Lib.hid (called_small HSm.out 2 0)
      clear hq
      have HP0 : Hid (∀ W, ReadB W W.heap.size v b → Calls Try.prog 23 #[bval v b, .bool false] W (TickPost b false W)) := Lib.hid (fun W h => impl_BuildTick false HSm.out (Nat.le_refl _) h)
      have HP1 : Hid (∀ W, ReadB W W.heap.size v b → Calls Try.prog 23 #[bval v b, .bool true] W (TickPost b true W)) := Lib.hid (fun W h => impl_BuildTick true HSm.out (Nat.le_refl _) h)
      unfold TickPost at HP0 HP1
      rw [HT0.out] at HP0
      rw [HT1.out] at HP1
      go_wp2_with fail
      refine (impl_BuildCall (v := v) (b := b) 2 0 HSm.out (Nat.le_refl _) HL3.out.read).mono ?_
      unfold CallPost
      rintro e w4 ⟨vx, rfl, ho4, hb4⟩
      generalize b.called 2 0 = x at *
      generalize b.calledOk 2 0 = xok at *
      have HL4 := Lib.hid ((HL3.out.call hb4).alloc (.cells (bcells vx x) 36)).drew
      have HX4 := Lib.hid (LB.new 36 ho4.read (HL3.out.call hb4).o).drew
      clear hb4 ho4 HL3 c0 HT0 HT1
      unfold bcells at HL4 HX4
      simp only [bval, bcells]
      go_wp2
      go_region_held3 (fun w' => (∀ o, w'.cell? ⟨w1.heap.size, o, none⟩ = (#[.slice v.A b.n v.c, .int .i64 b.pos, .int .i64 b.sp, .int .i64 b.gap, .int .i64 b.hold, .slice v.U b.nu v.cu, .slice v.D b.nd v.cd, .slice v.C b.nc v.cc, .int .i64 b.fl, .int .i64 b.dir, .bool b.op] : Array Value)[o]?) ∧ (∀ o, w'.cell? ⟨w4.heap.size, o, none⟩ = (#[.slice vx.A x.n vx.c, .int .i64 x.pos, .int .i64 x.sp, .int .i64 x.gap, .int .i64 x.hold, .slice vx.U x.nu vx.cu, .slice vx.D x.nd vx.cd, .slice vx.C x.nc vx.cc, .int .i64 x.fl, .int .i64 x.dir, .bool x.op] : Array Value)[o]?))
        (first | exact ⟨HL4.out.cells, HX4.out.cells⟩ | exact ⟨HL5.out.cells, HX5.out.cells⟩ | exact ⟨HL6.out.cells, HX6.out.cells⟩ | exact ⟨HL7.out.cells, HX7.out.cells⟩ | exact ⟨HL8.out.cells, HX8.out.cells⟩ | exact ⟨HL9.out.cells, HX9.out.cells⟩)
        (first
        | (go_at_call 23; (refine (HP1.out _ HL6.out.read).mono ?_); rintro e w7 ⟨v7, rfl, ho7, hb7⟩; simp only [bval, bcells]; have HL7 := Lib.hid (HL6.out.call hb7); have HX7 := Lib.hid (HX6.out.call hb7); have HY7 := Lib.hid ho7.read; clear hb7 ho7)
        | (go_at_call 23; (refine (HP0.out _ HL4.out.read).mono ?_); rintro e w5 ⟨v5, rfl, ho5, hb5⟩; simp only [bval, bcells]; have HL5 := Lib.hid (HL4.out.call hb5); have HX5 := Lib.hid (HX4.out.call hb5); have HY5 := Lib.hid ho5.read; clear hb5 ho5)
        | (go_at_call 20; (refine (sameBuild_any (v := v7) (v' := v) (a := b) (b := b) HSm.out (Nat.le_refl _) (Nat.le_refl _) HY7.out HL7.out.read).mono ?_); rintro e w8 ⟨rfl, hb8⟩; rw [sameP_refl]; have HL8 := Lib.hid (HL7.out.call hb8); have HX8 := Lib.hid (HX7.out.call hb8); clear hb8 HY7)
        | (go_at_call 20; (refine (sameBuild_any (v := v5) (v' := v) (a := b) (b := b) HSm.out (Nat.le_refl _) (Nat.le_refl _) HY5.out HL5.out.read).mono ?_); rintro e w6 ⟨rfl, hb6⟩; rw [sameP_refl]; have HL6 := Lib.hid (HL5.out.call hb6); have HX6 := Lib.hid (HX5.out.call hb6); clear hb6 HY5)
        | (go_at_call 27; (refine (impl_BuildQuiet (v := vx) (b := x) HCS.out (Nat.le_refl _) HX8.out.read).mono ?_); rintro e w9 ⟨rfl, hb9⟩; rw [HC.out]; have HL9 := Lib.hid (HL8.out.call hb9); have HX9 := Lib.hid (HX8.out.call hb9); clear hb9))
      go_wp2
      go_ret
      exact ⟨rfl, HL9.out.o⟩
  · go_enter Try.func6, Try.ntmps6
    go_wp2
    go_ret
    exact ⟨rfl, Below.refl _ _⟩
end Go.Proofs.Ytnbjibkbjdbadaa
