/-
  The law FnBuildCall: the walk. No claim stands here.
-/
import Derived.Test.YtnbjibkbjdbadaaLB
import Derived.Test.YtnbjibkbjdbadaaDrawK
namespace Go.Proofs.Ytnbjibkbjdbadaa
open Go.RowKit
set_option linter.unusedVariables false
set_option linter.unusedSimpArgs false

theorem ask_same {b : Bld} {kind fl : Int} (h : b.askOk kind fl = false) : b.ask kind fl = b := by
  unfold Bld.askOk at h
  obtain ⟨h1, h2, h3⟩ := ask_no (car := b.car) h
  unfold Bld.ask
  rw [h1, h2, h3]

set_option maxRecDepth 8000 in
set_option maxHeartbeats 12800000 in
theorem law_BuildCall {w : World} {A : Option Addr} {n c : Nat} {h : Nat → Int} (hc : n ≤ c) (hs : Bytes w w.heap.size A n h) :
    Calls Try.prog 4 #[.slice A n c] w fun e w' => e = .returned (.bool true) ∧ Below w.heap.size w w' := by
  by_cases h20 : n ≤ 1048576
  · go_enter Try.func4, Try.ntmps4
    go_wp2_with fail
    refine (DrawBuildCall_any (Nat.le_refl _) hc hs).mono ?_
    rintro e w1 ⟨v, b, kind, fl, rfl, hr1, hu, hb1⟩
    have HSm := Lib.hid (hu.small (by omega))
    have HL := Lib.hid (LB.new 36 hr1 hb1)
    have HXS := Lib.hid (called_small HSm.out kind fl)
    clear hr1 hu hb1 hs
    unfold bcells at HL
    simp only [bval, bcells]
    have c0 := HL.out.cells
    have HFN : Hid (b.valid = false → b.called kind fl = Bld.none ∧ b.calledOk kind fl = false) := Lib.hid called_no
    have HFY : Hid (b.valid = true → b.called kind fl = b.ask kind fl ∧ b.calledOk kind fl = b.askOk kind fl) := Lib.hid called_yes
    go_wp2_with fail
    refine (impl_BuildCall (v := v) (b := b) kind fl HSm.out (Nat.le_refl _) HL.out.read).mono ?_
    unfold CallPost
    rintro e w2 ⟨vx, rfl, ho2, hb2⟩
    generalize hx : b.called kind fl = x at *
    generalize hok : b.calledOk kind fl = ok at *
    have HX' := Lib.hid hx
    have HOK' := Lib.hid hok
    clear hx hok
    have HL2 := Lib.hid ((HL.out.call hb2).alloc (.cells (bcells vx x) 36))
    have HX2 := Lib.hid (LB.new 36 ho2.read (HL.out.call hb2).o)
    clear hb2 HL c0 ho2
    unfold bcells at HL2 HX2
    simp only [bval, bcells]
    have c0 := HL2.out.cells
    go_wp2_with fail
    refine (spec_BuildCall (v := v) (b := b) kind fl HSm.out (Nat.le_refl _) HL2.out.read).mono ?_
    unfold CallPost
    rw [HX'.out, HOK'.out]
    rintro e w3 ⟨vy, rfl, ho3, hb3⟩
    have HL3 := Lib.hid ((HL2.out.call hb3).alloc (.cells (bcells vy x) 36))
    have HX3 := Lib.hid ((HX2.out.call hb3).alloc (.cells (bcells vy x) 36))
    have HY3 := Lib.hid (LB.new 36 ho3.read (HL2.out.call hb3).o)
    clear hb3 HL2 HX2 c0 ho3
    unfold bcells at HL3 HX3 HY3
    simp only [bval, bcells]
    have c1 := HX3.out.cells
    have c2 := HY3.out.cells
    go_wp2_with fail
    refine (sameBuild_any (v := vx) (v' := vy) (a := x) (b := x) HXS.out (Nat.le_refl _) (Nat.le_refl _) HX3.out.read HY3.out.read).mono ?_
    rintro e w4 ⟨rfl, hb4⟩
    rw [sameP_refl]
    have HL4 := Lib.hid (HL3.out.call hb4)
    have HX4 := Lib.hid (HX3.out.call hb4)
    clear hb4 HL3 HX3 HY3 c1 c2
    have c0 := HL4.out.cells
    have c1 := HX4.out.cells
    cases ok
    · go_wp2_with fail
      refine (sameBuild_any (v := vx) (v' := v) (a := x) (b := b) HXS.out (Nat.le_refl _) (Nat.le_refl _) HX4.out.read HL4.out.read).mono ?_
      rintro e w5 ⟨rfl, hb5⟩
      have HL5 := Lib.hid (HL4.out.call hb5)
      clear hb5 HL4 HX4 c0 c1
      have c0 := HL5.out.cells
      cases hs5 : sameP x b
      · have hv : b.valid = false := by
          cases hv : b.valid
          · rfl
          · exfalso
            obtain ⟨e1, e2⟩ := HFY.out hv
            rw [e1, ask_same e2.symm, sameP_refl] at hs5
            cases hs5
        have HV := Lib.hid hv
        clear hs5 hv
        go_wp2_with fail
        refine (impl_BuildValid (v := v) (b := b) HSm.out (Nat.le_refl _) HL5.out.read).mono ?_
        rintro e w6 ⟨rfl, hb6⟩
        rw [HV.out]
        have HL6 := Lib.hid (HL5.out.call hb6)
        clear hb6 HL5 c0
        go_wp2_with fail
        refine alive_any.mono ?_
        rintro e w7 ⟨rfl, hb7⟩
        have HL7 := Lib.hid (HL6.out.call hb7)
        clear hb7 HL6
        go_wp2
        go_ret
        exact ⟨rfl, HL7.out.o⟩
      · clear hs5
        go_wp2_with fail
        refine alive_any.mono ?_
        rintro e w7 ⟨rfl, hb7⟩
        have HL7 := Lib.hid (HL5.out.call hb7)
        clear hb7 HL5 c0
        go_wp2
        go_ret
        exact ⟨rfl, HL7.out.o⟩
    · have hv : b.valid = true := by
        cases hv : b.valid
        · have := (HFN.out hv).2
          cases this
        · rfl
      have hbok := valid_iff.1 hv
      obtain ⟨e1, e2⟩ := HFY.out hv
      obtain ⟨z1, z2, z3, z4, z5⟩ := hbok.sizes
      have hcb := hbok.calls
      rw [z1, z2, z3] at hcb
      have HXV := Lib.hid (show x.valid = true by rw [e1]; exact valid_iff.2 (Bld.ask_valid hbok kind fl))
      have HSET := Lib.hid (show setOk b.n b.up b.dn kind fl true = true from e2.symm)
      have HCB := Lib.hid hcb
      have HX := Lib.hid e1
      clear hv hbok e1 e2 hcb HFN HFY
      obtain ⟨A', cA', U', cu', D', cd', C', cc'⟩ := v
      obtain ⟨nn, f', pos', sp', gap', hold', nu', up', nd', dn', nc', car', fl', dir', op'⟩ := b
      simp only at z1 z2 z3 z4 z5 c0
      replace z1 := z1.symm
      replace z2 := z2.symm
      replace z3 := z3.symm
      subst z1
      subst z2
      subst z3
      go_wp2_with fail
      refine (impl_CallSet kind fl true HCB.out (Nat.le_refl _) HL4.out.read.u HL4.out.read.d HL4.out.read.c).mono ?_
      unfold SetPost
      rw [HSET.out]
      rintro e w5 ⟨U5, cu5, D5, cd5, C5, cc5, rfl, hk5, hb5⟩
      have hL5 := HL4.out.call hb5
      have hX5 := HX4.out.call hb5
      have HRZ : Hid (ReadB w5 w5.heap.size ⟨A', cA', U5, cu5, D5, cd5, C5, cc5⟩ (Bld.ask ⟨nn, f', pos', sp', gap', hold', nn, up', nn, dn', nn, car', fl', dir', op'⟩ kind fl)) := Lib.hid ⟨hL5.read.h, hk5.u.bools, hk5.d.bools, hk5.c.bools, hL5.read.hn, hk5.u.none_cap', hk5.d.none_cap', hk5.c.none_cap'⟩
      have hl5 := hL5.lt
      have hx5 := hX5.lt
      have HX7 := Lib.hid ((hX5.alloc (.cells #[.slice U5 nn cu5, .slice D5 nn cd5, .slice C5 nn cc5] 32)).alloc (.cells #[.slice A' nn cA', .int .i64 pos', .int .i64 sp', .int .i64 gap', .int .i64 hold', .slice U5 nn cu5, .slice D5 nn cd5, .slice C5 nn cc5, .int .i64 fl', .int .i64 dir', .bool op'] 36))
      have HL5a := Lib.hid (hL5.alloc (.cells #[.slice U5 nn cu5, .slice D5 nn cd5, .slice C5 nn cc5] 32))
      have HS6 := Lib.hid ((Bx.new w5 #[.slice U5 nn cu5, .slice D5 nn cd5, .slice C5 nn cc5] 32).alloc (.cells #[.slice A' nn cA', .int .i64 pos', .int .i64 sp', .int .i64 gap', .int .i64 hold', .slice U' nn cu', .slice D' nn cd', .slice C' nn cc', .int .i64 fl', .int .i64 dir', .bool op'] 36))
      have HZ6 := Lib.hid (Bx.new (w5.alloc (.cells #[.slice U5 nn cu5, .slice D5 nn cd5, .slice C5 nn cc5] 32)) #[.slice A' nn cA', .int .i64 pos', .int .i64 sp', .int .i64 gap', .int .i64 hold', .slice U' nn cu', .slice D' nn cd', .slice C' nn cc', .int .i64 fl', .int .i64 dir', .bool op'] 36)
      have HZ7 := Lib.hid (Bx.new (w5.alloc (.cells #[.slice U5 nn cu5, .slice D5 nn cd5, .slice C5 nn cc5] 32)) #[.slice A' nn cA', .int .i64 pos', .int .i64 sp', .int .i64 gap', .int .i64 hold', .slice U5 nn cu5, .slice D5 nn cd5, .slice C5 nn cc5, .int .i64 fl', .int .i64 dir', .bool op'] 36)
      rw [show (w5.alloc (.cells #[.slice U5 nn cu5, .slice D5 nn cd5, .slice C5 nn cc5] 32)).heap.size = w5.heap.size + 1 by simp] at HZ6 HZ7
      have HBW := Lib.hid (((Below.refl w5.heap.size w5).alloc (Nat.le_refl _) (.cells #[.slice U5 nn cu5, .slice D5 nn cd5, .slice C5 nn cc5] 32)).alloc (by simp) (.cells #[.slice A' nn cA', .int .i64 pos', .int .i64 sp', .int .i64 gap', .int .i64 hold', .slice U5 nn cu5, .slice D5 nn cd5, .slice C5 nn cc5, .int .i64 fl', .int .i64 dir', .bool op'] 36))
      clear hb5 hk5 HL4 HX4 c0 c1 hL5 hX5
      have c0 := HL5a.out.cells
      simp only at c0
      have cs := HS6.out.cells
      have cz := HZ6.out.cells
      have fz := HZ6.out.free
      have c1 := HX7.out.cells
      have c2 := HZ7.out.cells
      go_wp2_with fail
      refine (sameBuild_any (v := vx) (v' := ⟨A', cA', U5, cu5, D5, cd5, C5, cc5⟩) (a := x) (b := Bld.ask ⟨nn, f', pos', sp', gap', hold', nn, up', nn, dn', nn, car', fl', dir', op'⟩ kind fl) HXS.out (Nat.le_refl _) HBW.out.size HX7.out.read (HRZ.out.below HBW.out)).mono ?_
      rintro e w8 ⟨rfl, hb8⟩
      rw [← HX.out, sameP_refl]
      have HX8 := Lib.hid (HX7.out.call hb8)
      clear hb8 HX7 HZ7 HZ6 HS6 c0 cs cz fz c1 c2 HBW HRZ HL5a
      have c1 := HX8.out.cells
      go_wp2_with fail
      refine (impl_BuildValid (v := vx) (b := x) HXS.out (Nat.le_refl _) HX8.out.read).mono ?_
      rintro e w9 ⟨rfl, hb9⟩
      rw [HXV.out]
      have HX9 := Lib.hid (HX8.out.call hb9)
      clear hb9 HX8 c1
      go_wp2
      go_ret
      exact ⟨rfl, HX9.out.o⟩
  · go_enter Try.func4, Try.ntmps4
    go_wp2
    go_ret
    exact ⟨rfl, Below.refl _ _⟩
end Go.Proofs.Ytnbjibkbjdbadaa
