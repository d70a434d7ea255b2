/-
  The law FnExactBuildRun: the walk. No claim stands here.
-/
import Derived.Test.YtailpiagjemhpaaBR
import Derived.Deep.RegionHeld3
namespace Go.Proofs.Ytailpiagjemhpaa
open Go.RowKit
set_option linter.unusedVariables false
set_option linter.unusedSimpArgs false

set_option maxHeartbeats 25600000 in
theorem law_ExactBuildRun {w : World} {v : Bv} {b : Bld} (hn : b.n ≤ 9223372036854775807) (n1 : b.nu ≤ 9223372036854775807) (n2 : b.nd ≤ 9223372036854775807) (n3 : b.nc ≤ 9223372036854775807) (hr : ReadB w w.heap.size v b) {A : Option Addr} {n c : Nat} {d : Nat → Int × Int × Int} (hl : n ≤ 9223372036854775807) (hd : Deeds w w.heap.size A n d) :
    Calls Try.prog 14 #[bval v b, .slice A n c] w fun e w' => e = .returned (.bool true) ∧ Below w.heap.size w w' := by
  have HX0 := Lib.hid (Bx.new w (bcells v b) 65)
  have HB0 := Lib.hid ((Below.refl w.heap.size w).alloc (Nat.le_refl _) (.cells (bcells v b) 65))
  have HR := Lib.hid hr
  have HD := Lib.hid hd
  clear hr hd
  unfold bval bcells at *
  go_enter Try.func14, Try.ntmps14
  go_wp2_with fail
  refine (szBuilding_le hn n1 n2 n3).mono ?_
  rintro e w1 ⟨x, rfl, hx, hb1⟩
  have HX1 := Lib.hid (HX0.out.below hb1 HX0.out.lt)
  have HB1 := Lib.hid (HB0.out.trans (hb1.mono HB0.out.size))
  clear hb1 HX0 HB0
  have c0 := HX1.out.cells
  rcases hx with hx | ⟨x0, hx5, x1, x2, x3, x4⟩
  · go_wp2
    go_ret
    exact ⟨rfl, HB1.out⟩
  · have HSm : Hid b.Small := Lib.hid ⟨by omega, by omega, by omega, by omega⟩
    clear hn n1 n2 n3
    have HBS : Hid (b.n ≤ 1000000000 ∧ b.nu ≤ 1000000000 ∧ b.nd ≤ 1000000000 ∧ b.nc ≤ 1000000000) := Lib.hid ⟨by omega, by omega, by omega, by omega⟩
    clear x1 x2 x3 x4
    go_wp2_with fail
    refine (szBuildDeedS_any x ⟨x0, hx5⟩ hl).mono ?_
    rintro e w1' ⟨y, rfl, hy, rfl⟩
    rcases hy with rfl | ⟨y0, y1⟩
    · go_wp2
      go_ret
      exact ⟨rfl, HB1.out⟩
    have hl2 : n ≤ 1048576 := by omega
    clear y1 hl
    have HTO : Hid (∀ W : World, Below w.heap.size w W → Calls Try.prog 41 #[bval v b] W fun e w' => ∃ v', e = .returned (bval v' b) ∧ OwnB w' W.heap.size v' b ∧ Below W.heap.size W w') :=
      Lib.hid (fun W hW => toBuilding_any (by have := HBS.out; omega) (by have := HBS.out; omega) (by have := HBS.out; omega) (by have := HBS.out; omega) hW.size (HR.out.below hW))
    have HTD : Hid (∀ W : World, Below w.heap.size w W → Calls Try.prog 57 #[.slice A n c] W fun e w' => ∃ A' c', e = .returned (.slice A' n c') ∧ DRow w' W.heap.size A' n d ∧ Below W.heap.size W w') :=
      Lib.hid (fun W hW => toBuildDeedS_any (by omega) hW.size (HD.out.below hW))
    have HRS := Lib.hid (ran_small HSm.out d n)
    have HSP : Hid (∀ (W : World) (v' : Bv) (A' : Option Addr) (c' : Nat), ReadB W W.heap.size v' b → Deeds W W.heap.size A' n d → Calls Try.prog 39 #[bval v' b, .slice A' n c'] W (RunPost b d n W)) := Lib.hid (fun W v' A' c' h h' => spec_BuildRun HSm.out (Nat.le_refl _) h (by omega) h')
    have HIM : Hid (∀ (W : World) (v' : Bv) (A' : Option Addr) (c' : Nat), ReadB W W.heap.size v' b → Deeds W W.heap.size A' n d → Calls Try.prog 38 #[bval v' b, .slice A' n c'] W (RunPost b d n W)) := Lib.hid (fun W v' A' c' h h' => impl_BuildRun HSm.out (Nat.le_refl _) h (by omega) h')
    unfold RunPost at HSP HIM
    generalize b.ran d n = r at *
    go_wp2_with fail
    refine (HTO.out _ HB1.out).mono ?_
    rintro e w2 ⟨v1, rfl, ho2, hb2⟩
    clear x0 hx5 y0
    simp only [bval, bcells]
    have HX2 := Lib.hid (HX1.out.below hb2 HX1.out.lt)
    have HB2 := Lib.hid (HB1.out.trans (hb2.mono HB1.out.size))
    have HO2 := Lib.hid ho2
    have q2 := HX2.out.lt
    clear hb2 ho2 c0 HX1 HB1
    go_wp2_with fail
    refine (HTD.out _ HB2.out).mono ?_
    rintro e w3 ⟨A3, c3, rfl, hd3, hb3⟩
    have HX3 := Lib.hid (HX2.out.below hb3 HX2.out.lt)
    have HB3 := Lib.hid (HB2.out.trans (hb3.mono HB2.out.size))
    have HO3 := Lib.hid (ownB_below HO2.out hb3)
    have HD3 := Lib.hid hd3.deeds
    have q3 : w2.heap.size ≤ w3.heap.size := hb3.size
    clear hb3 hd3 HX2 HB2 HO2
    go_wp2_with fail
    refine (HSP.out _ v1 A3 c3 HO3.out.read HD3.out).mono ?_
    rintro e w4 ⟨vw, rfl, ho4, hb4⟩
    simp only [bval, bcells]
    have HX4 := Lib.hid ((HX3.out.below hb4 HX3.out.lt).alloc (.cells (bcells vw r) 36))
    have HB4 := Lib.hid ((HB3.out.trans (hb4.mono HB3.out.size)).alloc (Nat.le_trans HB3.out.size hb4.size) (.cells (bcells vw r) 36))
    have HW4 := Lib.hid (Held.new ho4 36)
    have q4 : w3.heap.size ≤ w4.heap.size := hb4.size
    clear hb4 ho4 HX3 HB3 HO3 HD3
    unfold bcells at HX4 HB4 HW4
    have c0 := HX4.out.cells
    go_wp2_with fail
    refine (HTO.out _ HB4.out).mono ?_
    rintro e w5 ⟨vx, rfl, ho5, hb5⟩
    simp only [bval, bcells]
    have HX5 := Lib.hid ((HX4.out.below hb5 HX4.out.lt).alloc (.cells (bcells vx b) 36))
    have HB5 := Lib.hid ((HB4.out.trans (hb5.mono HB4.out.size)).alloc (Nat.le_trans HB4.out.size hb5.size) (.cells (bcells vx b) 36))
    have HW5 := Lib.hid ((HW4.out.call hb5).alloc (.cells (bcells vx b) 36))
    have HK5 := Lib.hid (Held.new ho5 36)
    have q5 : w4.heap.size + 1 ≤ w5.heap.size := by have := hb5.size; simpa using this
    clear hb5 ho5 c0 HX4 HB4 HW4
    unfold bcells at HX5 HB5 HW5 HK5
    go_wp2_with fail
    refine (HTD.out _ HB5.out).mono ?_
    rintro e w6 ⟨A6, c6, rfl, hd6, hb6⟩
    have HX6 := Lib.hid (HX5.out.below hb6 HX5.out.lt)
    have HB6 := Lib.hid (HB5.out.trans (hb6.mono HB5.out.size))
    have HW6 := Lib.hid (HW5.out.call hb6)
    have HK6 := Lib.hid (HK5.out.call hb6)
    have HD6 := Lib.hid hd6
    have HPD := Lib.hid (fun hn0 => hd6.place hn0)
    have q6 : w5.heap.size + 1 ≤ w6.heap.size := by have := hb6.size; simpa using this
    clear hb6 hd6 HX5 HB5 HW5 HK5
    have c2 := HK6.out.cells
    go_wp2_with fail
    refine (HIM.out _ vx A6 c6 HK6.out.read HD6.out.deeds).mono ?_
    rintro e w7 ⟨vg, rfl, ho7, hb7⟩
    simp only [bval, bcells]
    have HX7 := Lib.hid ((HX6.out.below hb7 HX6.out.lt).alloc (.cells (bcells vg r) 36))
    have HB7 := Lib.hid ((HB6.out.trans (hb7.mono HB6.out.size)).alloc (Nat.le_trans HB6.out.size hb7.size) (.cells (bcells vg r) 36))
    have HW7 := Lib.hid ((HW6.out.call hb7).alloc (.cells (bcells vg r) 36))
    have HK7 := Lib.hid ((HK6.out.call hb7).alloc (.cells (bcells vg r) 36))
    have HD7 := Lib.hid ((HD6.out.below hb7 (Nat.le_refl _)).alloc (.cells (bcells vg r) 36))
    have HG7 := Lib.hid (Held.new ho7 36)
    have q7 : w6.heap.size ≤ w7.heap.size := hb7.size
    clear hb7 ho7 c2 HX6 HB6 HW6 HK6 HD6
    unfold bcells at HX7 HB7 HW7 HK7 HD7 HG7
    have c1 := HW7.out.cells
    have c3 := HG7.out.cells
    go_wp2_with fail
    refine (eqBuilding_same (b := r) HRS.out (Nat.le_refl _) (Nat.le_refl _) HG7.out.read HW7.out.read).mono ?_
    rintro e w8 ⟨rfl, hb8⟩
    have HW8 := Lib.hid (HW7.out.call hb8)
    have HK8 := Lib.hid (HK7.out.call hb8)
    have HG8 := Lib.hid (HG7.out.call hb8)
    have HD8 := Lib.hid (HD7.out.below hb8 (Nat.le_refl _))
    have HX8 := Lib.hid (HX7.out.below hb8 HX7.out.lt)
    have HB8 := Lib.hid (HB7.out.trans (hb8.mono HB7.out.size))
    clear hb8 HW7 HK7 HG7 HD7 HX7 HB7 c1 c3
    have c0 := HX8.out.cells
    have c2 := HK8.out.cells
    go_wp2
    go_region_held3 (fun w' => (∀ o, w'.cell? ⟨w.heap.size, o, none⟩ = (#[.slice v.A b.n v.c, .int .i64 b.pos, .int .i64 b.sp, .int .i64 b.gap, .int .i64 b.hold, .slice v.U b.nu v.cu, .slice v.D b.nd v.cd, .slice v.C b.nc v.cc, .int .i64 b.fl, .int .i64 b.dir, .bool b.op] : Array Value)[o]?) ∧ (∀ o, w'.cell? ⟨w5.heap.size, o, none⟩ = (#[.slice vx.A b.n vx.c, .int .i64 b.pos, .int .i64 b.sp, .int .i64 b.gap, .int .i64 b.hold, .slice vx.U b.nu vx.cu, .slice vx.D b.nd vx.cd, .slice vx.C b.nc vx.cc, .int .i64 b.fl, .int .i64 b.dir, .bool b.op] : Array Value)[o]?)) (first | exact ⟨HX8.out.cells, HK8.out.cells⟩ | exact ⟨HX9.out.cells, HK9.out.cells⟩ | exact ⟨HX10.out.cells, HK10.out.cells⟩) (first
      | (go_at_call 41; refine (HTO.out _ HB8.out.drew).mono ?_; rintro e w9 ⟨v9, rfl, ho9, hb9⟩; simp only [bval, bcells]; have HX9 := Lib.hid (HX8.out.below (w := w8.drew) hb9 HX8.out.lt); have HK9 := Lib.hid (HK8.out.drew.call hb9); have HW9 := Lib.hid (HW8.out.drew.call hb9); have HG9 := Lib.hid (HG8.out.drew.call hb9); have HD9 := Lib.hid (HD8.out.drew.below hb9 (Nat.le_refl _)); have HB9 := Lib.hid (HB8.out.drew.trans (hb9.mono HB8.out.size)))
      | (go_at_call 42; refine (eqBuilding_same (v := vx) (v' := v9) (b := b) HSm.out (Nat.le_refl _) (Nat.le_refl _) HK9.out.read ho9.read).mono ?_; rintro e w10 ⟨rfl, hb10⟩; have HX10 := Lib.hid (HX9.out.below hb10 HX9.out.lt); have HK10 := Lib.hid (HK9.out.call hb10); have HW10 := Lib.hid (HW9.out.call hb10); have HG10 := Lib.hid (HG9.out.call hb10); have HD10 := Lib.hid (HD9.out.below hb10 (Nat.le_refl _)); have HB10 := Lib.hid (HB9.out.trans (hb10.mono HB9.out.size))))
    clear hb9 hb10 ho9 HX8 HK8 HW8 HG8 HB8 HD8 HX9 HK9 HW9 HG9 HB9 HD9 c0 c2
    go_wp2_with fail
    refine (HTD.out _ HB10.out).mono ?_
    rintro e w11 ⟨A11, c11, rfl, hd11, hb11⟩
    have HL11 := Lib.hid hd11.deeds
    clear hd11
    have HW11 := Lib.hid (HW10.out.call hb11)
    have HK11 := Lib.hid (HK10.out.call hb11)
    have HG11 := Lib.hid (HG10.out.call hb11)
    have HD11 := Lib.hid (HD10.out.below hb11 (Nat.le_refl _))
    have HX11 := Lib.hid (HX10.out.below hb11 HX10.out.lt)
    have HB11 := Lib.hid (HB10.out.trans (hb11.mono HB10.out.size))
    clear hb11 HW10 HK10 HG10 HD10 HX10 HB10 
    go_wp2_with fail
    refine (eqBuildDeedS_same (by omega) (Nat.le_refl _) (Nat.le_refl _) HD11.out.deeds HL11.out).mono ?_
    rintro e w12 ⟨rfl, hb12⟩
    have HW12 := Lib.hid (HW11.out.call hb12)
    have HK12 := Lib.hid (HK11.out.call hb12)
    have HG12 := Lib.hid (HG11.out.call hb12)
    have HD12 := Lib.hid (HD11.out.below hb12 (Nat.le_refl _))
    have HX12 := Lib.hid (HX11.out.below hb12 HX11.out.lt)
    have HB12 := Lib.hid (HB11.out.trans (hb12.mono HB11.out.size))
    clear hb12 HW11 HK11 HG11 HD11 HX11 HB11 HL11
    have c2 := HK12.out.cells
    go_wp2_with fail
    refine (markBuilding_any 1 HSm.out (by omega) (by omega) HK12.out.o HK12.out.i HK12.out.top).mono ?_
    rintro e w13 ⟨rfl, ho13, hw13⟩
    have HX13 := Lib.hid (HX12.out.within hw13 (.inl (by first | omega | (simp; omega) | simp)))
    have HB13 := Lib.hid (HB12.out.trans (hw13.below (by first | omega | (simp; omega) | simp) HB12.out.size))
    have HW13 := Lib.hid (HW12.out.within hw13 (.inl (by first | omega | (simp; omega) | simp)) (.inl (by first | omega | (simp; omega) | simp)))
    have HG13 := Lib.hid (HG12.out.within hw13 (.inr (by first | omega | (simp; omega) | simp)) (.inr (by first | omega | (simp; omega) | simp)))
    have HD13 := Lib.hid (HD12.out.within hw13 (fun hn0 x hx => .inr (by have := (HPD.out hn0 x hx).1; first | omega | (simp at this; omega))))
    clear ho13 hw13 c2 HX12 HB12 HW12 HG12 HK12 HD12
    have hM : (0 : Int) ≤ 1 + b.n + b.nu + b.nd + b.nc := by omega
    have hM2 : (1 : Int) + b.n + b.nu + b.nd + b.nc ≤ 100000000000 := by have := HBS.out; omega
    generalize (1 : Int) + b.n + b.nu + b.nd + b.nc = M at *
    have hsz13 := HB13.out.size
    go_wp2_with fail
    refine (markBuildDeedS_any (lo := w5.heap.size + 1) (hi := w6.heap.size) M (by omega) hM hM2 HD13.out (fun hn0 x hx => by have := HPD.out hn0 x hx; first | exact this | (simp at this; exact this))).mono ?_
    rintro e w14 ⟨rfl, hw14⟩
    have HX14 := Lib.hid (HX13.out.within hw14 (.inl (by first | omega | (simp; omega) | simp)))
    have HB14 := Lib.hid (HB13.out.trans (hw14.below (by first | omega | (simp; omega) | simp) HB13.out.size))
    have HW14 := Lib.hid (HW13.out.within hw14 (.inl (by first | omega | (simp; omega) | simp)) (.inl (by first | omega | (simp; omega) | simp)))
    have HG14 := Lib.hid (HG13.out.within hw14 (.inr (by first | omega | (simp; omega) | simp)) (.inr (by first | omega | (simp; omega) | simp)))
    clear hw14 HX13 HB13 HW13 HG13 HD13
    have hM3 : (0 : Int) ≤ M + 3 * n := by omega
    generalize M + 3 * (n : Int) = M2 at *
    have c1 := HW14.out.cells
    have c3 := HG14.out.cells
    go_wp2_with fail
    refine (eqBuilding_same (b := r) HRS.out (Nat.le_refl _) (Nat.le_refl _) HG14.out.read HW14.out.read).mono ?_
    rintro e w15 ⟨rfl, hb15⟩
    have HW15 := Lib.hid (HW14.out.call hb15)
    have HG15 := Lib.hid (HG14.out.call hb15)
    have HX15 := Lib.hid (HX14.out.below hb15 HX14.out.lt)
    have HB15 := Lib.hid (HB14.out.trans (hb15.mono HB14.out.size))
    clear hb15 HW14 HG14 HX14 HB14 c1 c3
    have c3 := HG15.out.cells
    go_wp2_with fail
    refine (markBuilding_any 1 HRS.out (by omega) (by omega) HG15.out.o HG15.out.i HG15.out.top).mono ?_
    rintro e w16 ⟨rfl, ho16, hw16⟩
    have HX16 := Lib.hid (HX15.out.within hw16 (.inl (by first | omega | (simp; omega) | simp)))
    have HB16 := Lib.hid (HB15.out.trans (hw16.below (by first | omega | (simp; omega) | simp) HB15.out.size))
    have HW16 := Lib.hid (HW15.out.within hw16 (.inl (by first | omega | (simp; omega) | simp)) (.inl (by first | omega | (simp; omega) | simp)))
    have HG16 := Lib.hid (HG15.out.marked ho16 hw16)
    clear ho16 hw16 c3 HX15 HB15 HW15 HG15
    have c3 := HG16.out.cells
    go_wp2_with fail
    refine (heldBuilding_same (b := r) 1 HRS.out (by omega) (by omega) (Nat.le_refl _) HG16.out.read).mono ?_
    rintro e w17 ⟨rfl, hb17⟩
    have HW17 := Lib.hid (HW16.out.call hb17)
    have HG17 := Lib.hid (HG16.out.call hb17)
    have HX17 := Lib.hid (HX16.out.below hb17 HX16.out.lt)
    have HB17 := Lib.hid (HB16.out.trans (hb17.mono HB16.out.size))
    clear hb17 HW16 HG16 HX16 HB16 c3
    have hN : (0 : Int) ≤ 1 + r.n + r.nu + r.nd + r.nc := by omega
    generalize hNN : (1 : Int) + r.n + r.nu + r.nd + r.nc = N at *
    have HNN := Lib.hid hNN
    clear hNN
    have c0 := HX17.out.cells
    go_wp2_with fail
    refine (HTO.out _ HB17.out).mono ?_
    rintro e w18 ⟨vh0, rfl, ho18, hb18⟩
    simp only [bval, bcells]
    have HO18 := Lib.hid ho18
    clear ho18
    have HW18 := Lib.hid (HW17.out.call hb18)
    have HG18 := Lib.hid (HG17.out.call hb18)
    have HX18 := Lib.hid (HX17.out.below hb18 HX17.out.lt)
    have HB18 := Lib.hid (HB17.out.trans (hb18.mono HB17.out.size))
    clear hb18 HW17 HG17 HX17 HB17 c0
    go_wp2_with fail
    refine (HTD.out _ HB18.out).mono ?_
    rintro e w19 ⟨A19, c19, rfl, hd19, hb19⟩
    have HO19 := Lib.hid (ownB_below HO18.out hb19)
    have HL19 := Lib.hid hd19.deeds
    clear hd19 HO18
    have HW19 := Lib.hid (HW18.out.call hb19)
    have HG19 := Lib.hid (HG18.out.call hb19)
    have HX19 := Lib.hid (HX18.out.below hb19 HX18.out.lt)
    have HB19 := Lib.hid (HB18.out.trans (hb19.mono HB18.out.size))
    clear hb19 HW18 HG18 HX18 HB18 
    go_wp2_with fail
    refine (HIM.out _ vh0 A19 c19 HO19.out.read HL19.out).mono ?_
    rintro e w20 ⟨vh, rfl, ho20, hb20⟩
    simp only [bval, bcells]
    have HW20 := Lib.hid ((HW19.out.call hb20).alloc (.cells (bcells vh r) 36))
    have HG20 := Lib.hid ((HG19.out.call hb20).alloc (.cells (bcells vh r) 36))
    have HB20 := Lib.hid ((HB19.out.trans (hb20.mono HB19.out.size)).alloc (Nat.le_trans HB19.out.size hb20.size) (.cells (bcells vh r) 36))
    have HH20 := Lib.hid (Held.new ho20 36)
    clear hb20 ho20 HX19 HB19 HW19 HG19 HO19 HL19
    unfold bcells at HB20 HW20 HG20 HH20
    have c1 := HW20.out.cells
    have c4 := HH20.out.cells
    go_wp2_with fail
    refine (eqBuilding_same (b := r) HRS.out (Nat.le_refl _) (Nat.le_refl _) HH20.out.read HW20.out.read).mono ?_
    rintro e w21 ⟨rfl, hb21⟩
    have HG21 := Lib.hid (HG20.out.call hb21)
    have HB21 := Lib.hid (HB20.out.trans (hb21.mono HB20.out.size))
    clear hb21 c1 c4 HW20 HG20 HB20 HH20
    have c3 := HG21.out.cells
    go_wp2_with fail
    refine (heldBuilding_same (b := r) 1 HRS.out (by omega) (by omega) (Nat.le_refl _) HG21.out.read).mono ?_
    rintro e w22 ⟨rfl, hb22⟩
    have HB22 := Lib.hid (HB21.out.trans (hb22.mono HB21.out.size))
    clear hb22 c3
    rw [HNN.out]
    go_wp2
    go_ret
    exact ⟨rfl, HB22.out⟩
end Go.Proofs.Ytailpiagjemhpaa
