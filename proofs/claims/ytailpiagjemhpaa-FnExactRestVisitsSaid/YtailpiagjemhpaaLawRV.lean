/-
  The law FnExactRestVisits: the walk. No claim stands here.
-/
import Derived.Test.YtailpiagjemhpaaBV
import Derived.Deep.RegionHeld3
namespace Go.Proofs.Ytailpiagjemhpaa
open Go.RowKit
set_option linter.unusedVariables false
set_option linter.unusedSimpArgs false

theorem visits_len (b : Bld) : b.visits.length ≤ 5000 := by
  unfold Bld.visits
  split
  · rename_i h
    have := visL_length b b.rest
    have := (rest_bound (valid_iff.1 h)).2
    omega
  · simp
theorem eqIntS_same {w : World} {B B' n c c' : Nat} {A A' : Option Addr} {f : Nat → Int} (hn : n ≤ 9223372036854775806) (h : Ints w B A n f) (h' : Ints w B' A' n f) :
    Calls Try.prog 51 #[.slice A n c, .slice A' n c'] w fun e w' => e = .returned (.bool true) ∧ Below w.heap.size w w' := by
  refine (eqIntS_any hn h h').mono ?_
  rintro e w' ⟨rfl, j, rfl⟩
  exact ⟨by rw [eqB_refl], below_drewN (Below.refl _ _) j⟩

set_option maxHeartbeats 12800000 in
theorem law_ExactRestVisits {w : World} {v : Bv} {b : Bld} (hn : b.n ≤ 9223372036854775807) (n1 : b.nu ≤ 9223372036854775807) (n2 : b.nd ≤ 9223372036854775807) (n3 : b.nc ≤ 9223372036854775807) (hr : ReadB w w.heap.size v b) :
    Calls Try.prog 12 #[bval v b] w fun e w' => e = .returned (.bool true) ∧ Below w.heap.size w w' := by
  have HX0 := Lib.hid (Bx.new w (bcells v b) 65)
  have HB0 := Lib.hid ((Below.refl w.heap.size w).alloc (Nat.le_refl _) (.cells (bcells v b) 65))
  have HR := Lib.hid hr
  clear hr
  unfold bval bcells at *
  go_enter Try.func12, Try.ntmps12
  go_wp2_with fail
  refine (szBuilding_any hn n1 n2 n3).mono ?_
  rintro e w1 ⟨x, rfl, hx, hb1⟩
  have HX1 := Lib.hid (HX0.out.below hb1 HX0.out.lt)
  have HB1 := Lib.hid (HB0.out.trans (hb1.mono HB0.out.size))
  clear hb1 HX0 HB0
  have c0 := HX1.out.cells
  rcases hx with hx | ⟨x0, x1, x2, x3, x4⟩
  · go_wp2
    go_ret
    exact ⟨rfl, HB1.out⟩
  · have HSm : Hid b.Small := Lib.hid ⟨by omega, by omega, by omega, by omega⟩
    clear hn n1 n2 n3
    have HBS : Hid (b.n ≤ 1000000000 ∧ b.nu ≤ 1000000000 ∧ b.nd ≤ 1000000000 ∧ b.nc ≤ 1000000000) := Lib.hid ⟨by omega, by omega, by omega, by omega⟩
    clear x1 x2 x3 x4
    have HTO : Hid (∀ W : World, Below w.heap.size w W → Calls Try.prog 41 #[bval v b] W fun e w' => ∃ v', e = .returned (bval v' b) ∧ OwnB w' W.heap.size v' b ∧ Below W.heap.size W w') :=
      Lib.hid (fun W hW => toBuilding_any (by have := HBS.out; omega) (by have := HBS.out; omega) (by have := HBS.out; omega) (by have := HBS.out; omega) hW.size (HR.out.below hW))
    have hlen := visits_len b
    have HPP : Hid (∀ (W : World) (e : Ending) (w' : World), VisPost b W e w' → ∃ A c, e = .returned (.slice A b.visits.length c) ∧ Row w' W.heap.size A b.visits.length c (fun i => b.visits.getD i 0) ∧ Below W.heap.size W w') := Lib.hid (by
      rintro W e w' ⟨A, n, c, rfl, ⟨rfl, hr⟩, hb⟩
      exact ⟨A, c, rfl, hr, hb⟩)
    have HSP : Hid (∀ (W : World) (v' : Bv), ReadB W W.heap.size v' b → Calls Try.prog 46 #[bval v' b] W (fun e w' => ∃ A c, e = .returned (.slice A b.visits.length c) ∧ Row w' W.heap.size A b.visits.length c (fun i => b.visits.getD i 0) ∧ Below W.heap.size W w')) := Lib.hid (fun W v' h => (spec_RestVisits HSm.out (Nat.le_refl _) h).mono (HPP.out W))
    have HIM : Hid (∀ (W : World) (v' : Bv), ReadB W W.heap.size v' b → Calls Try.prog 44 #[bval v' b] W (fun e w' => ∃ A c, e = .returned (.slice A b.visits.length c) ∧ Row w' W.heap.size A b.visits.length c (fun i => b.visits.getD i 0) ∧ Below W.heap.size W w')) := Lib.hid (fun W v' h => (impl_RestVisits HSm.out (Nat.le_refl _) h).mono (HPP.out W))
    clear HPP
    generalize b.visits.length = N at *
    generalize (fun i => b.visits.getD i 0) = F at *
    go_wp2_with fail
    refine (HTO.out _ HB1.out).mono ?_
    rintro e w2 ⟨v1, rfl, ho2, hb2⟩
    clear x0
    simp only [bval, bcells]
    have HX2 := Lib.hid (HX1.out.below hb2 HX1.out.lt)
    have HB2 := Lib.hid (HB1.out.trans (hb2.mono HB1.out.size))
    have HO2 := Lib.hid ho2
    have q2 := HX2.out.lt
    clear hb2 ho2 c0 HX1 HB1
    have c0 := HX2.out.cells
    go_wp2_with fail
    refine (HSP.out _ v1 HO2.out.read).mono ?_
    rintro e w3 ⟨Aw, cw, rfl, hr3, hb3⟩
    have HX3 := Lib.hid (HX2.out.below hb3 HX2.out.lt)
    have HB3 := Lib.hid (HB2.out.trans (hb3.mono HB2.out.size))
    have HW3 := Lib.hid hr3
    have HIW := Lib.hid hr3.place
    have q3 : w2.heap.size ≤ w3.heap.size := hb3.size
    clear hb3 hr3 c0 HX2 HB2 HO2
    have c0 := HX3.out.cells
    go_wp2_with fail
    refine (HTO.out _ HB3.out).mono ?_
    rintro e w4 ⟨vx, rfl, ho4, hb4⟩
    simp only [bval, bcells]
    have HX4 := Lib.hid ((HX3.out.below hb4 HX3.out.lt).alloc (.cells (bcells vx b) 36))
    have HB4 := Lib.hid ((HB3.out.trans (hb4.mono HB3.out.size)).alloc (Nat.le_trans HB3.out.size hb4.size) (.cells (bcells vx b) 36))
    have HW4 := Lib.hid ((HW3.out.below hb4 (Nat.le_refl _)).alloc (.cells (bcells vx b) 36))
    have HK4 := Lib.hid (Held.new ho4 36)
    have q4 : w3.heap.size ≤ w4.heap.size := hb4.size
    clear hb4 ho4 c0 HX3 HB3 HW3
    unfold bcells at HX4 HB4 HW4 HK4
    have c2 := HK4.out.cells
    go_wp2_with fail
    refine (HIM.out _ vx HK4.out.read).mono ?_
    rintro e w5 ⟨Ag, cg, rfl, hr5, hb5⟩
    have HX5 := Lib.hid (HX4.out.below hb5 HX4.out.lt)
    have HB5 := Lib.hid (HB4.out.trans (hb5.mono HB4.out.size))
    have HW5 := Lib.hid (HW4.out.below hb5 (Nat.le_refl _))
    have HK5 := Lib.hid (HK4.out.call hb5)
    have HG5 := Lib.hid hr5
    have HIG := Lib.hid hr5.place
    have q5 : w4.heap.size + 1 ≤ w5.heap.size := by have := hb5.size; simpa using this
    clear hb5 hr5 c2 HX4 HB4 HW4 HK4
    go_wp2_with fail
    refine (eqIntS_same (by omega) HG5.out.ints HW5.out.ints).mono ?_
    rintro e w6 ⟨rfl, hb6⟩
    have HW6 := Lib.hid (HW5.out.below hb6 (Nat.le_refl _))
    have HG6 := Lib.hid (HG5.out.below hb6 (Nat.le_refl _))
    have HK6 := Lib.hid (HK5.out.call hb6)
    have HX6 := Lib.hid (HX5.out.below hb6 HX5.out.lt)
    have HB6 := Lib.hid (HB5.out.trans (hb6.mono HB5.out.size))
    clear hb6 HW5 HG5 HK5 HX5 HB5 
    have c0 := HX6.out.cells
    have c2 := HK6.out.cells
    go_wp2
    go_region_held3 (fun w' => (∀ o, w'.cell? ⟨w.heap.size, o, none⟩ = (#[.slice v.A b.n v.c, .int .i64 b.pos, .int .i64 b.sp, .int .i64 b.gap, .int .i64 b.hold, .slice v.U b.nu v.cu, .slice v.D b.nd v.cd, .slice v.C b.nc v.cc, .int .i64 b.fl, .int .i64 b.dir, .bool b.op] : Array Value)[o]?) ∧ (∀ o, w'.cell? ⟨w4.heap.size, o, none⟩ = (#[.slice vx.A b.n vx.c, .int .i64 b.pos, .int .i64 b.sp, .int .i64 b.gap, .int .i64 b.hold, .slice vx.U b.nu vx.cu, .slice vx.D b.nd vx.cd, .slice vx.C b.nc vx.cc, .int .i64 b.fl, .int .i64 b.dir, .bool b.op] : Array Value)[o]?)) (first | exact ⟨HX6.out.cells, HK6.out.cells⟩ | exact ⟨HX7.out.cells, HK7.out.cells⟩ | exact ⟨HX8.out.cells, HK8.out.cells⟩) (first
      | (go_at_call 41; refine (HTO.out _ HB6.out.drew).mono ?_; rintro e w7 ⟨v7, rfl, ho7, hb7⟩; simp only [bval, bcells]; have HX7 := Lib.hid (HX6.out.below (w := w6.drew) hb7 HX6.out.lt); have HK7 := Lib.hid (HK6.out.drew.call hb7); have HW7 := Lib.hid (HW6.out.drew.below hb7 (Nat.le_refl _)); have HG7 := Lib.hid (HG6.out.drew.below hb7 (Nat.le_refl _)); have HB7 := Lib.hid (HB6.out.drew.trans (hb7.mono HB6.out.size)))
      | (go_at_call 42; refine (eqBuilding_same (v := vx) (v' := v7) (b := b) HSm.out (Nat.le_refl _) (Nat.le_refl _) HK7.out.read ho7.read).mono ?_; rintro e w8 ⟨rfl, hb8⟩; have HX8 := Lib.hid (HX7.out.below hb8 HX7.out.lt); have HK8 := Lib.hid (HK7.out.call hb8); have HW8 := Lib.hid (HW7.out.below hb8 (Nat.le_refl _)); have HG8 := Lib.hid (HG7.out.below hb8 (Nat.le_refl _)); have HB8 := Lib.hid (HB7.out.trans (hb8.mono HB7.out.size)); have c8 := HK8.out.cells))
    clear hb7 hb8 ho7 HX6 HK6 HW6 HG6 HB6 HX7 HK7 HW7 HG7 HB7 c0 c2
    go_wp2_with fail
    refine (markBuilding_any 1 HSm.out (by omega) (by omega) HK8.out.o HK8.out.i HK8.out.top).mono ?_
    rintro e w9 ⟨rfl, ho9, hw9⟩
    have HX9 := Lib.hid (HX8.out.within hw9 (.inl (by first | omega | (simp; omega) | simp)))
    have HB9 := Lib.hid (HB8.out.trans (hw9.below (by first | omega | (simp; omega) | simp) HB8.out.size))
    have HW9 := Lib.hid (HW8.out.within hw9 (fun x hx => .inl (by have := (HIW.out x hx).2; first | omega | (simp; omega))))
    have HG9 := Lib.hid (HG8.out.within hw9 (fun x hx => .inr (by have := (HIG.out x hx).1; first | omega | (simp at this; omega))))
    clear ho9 hw9 c8 HX8 HB8 HW8 HG8 HK8
    have hM : (0 : Int) ≤ 1 + b.n + b.nu + b.nd + b.nc := by omega
    generalize (1 : Int) + b.n + b.nu + b.nd + b.nc = M at *
    go_wp2_with fail
    refine (eqIntS_same (by omega) HG9.out.ints HW9.out.ints).mono ?_
    rintro e w10 ⟨rfl, hb10⟩
    have HW10 := Lib.hid (HW9.out.below hb10 (Nat.le_refl _))
    have HG10 := Lib.hid (HG9.out.below hb10 (Nat.le_refl _))
    have HX10 := Lib.hid (HX9.out.below hb10 HX9.out.lt)
    have HB10 := Lib.hid (HB9.out.trans (hb10.mono HB9.out.size))
    clear hb10 HW9 HG9 HX9 HB9 
    have hsz10 := HB10.out.size
    go_wp2_with fail
    refine (markIntS_any 1 (by omega) (by omega) HG10.out).mono ?_
    rintro e w11 ⟨rfl, hr11, hw11⟩
    have hq11 := Within.of_wrote hw11 HIG.out
    have HX11 := Lib.hid (HX10.out.within hq11 (.inl (by first | omega | (simp; omega) | simp)))
    have HB11 := Lib.hid (HB10.out.trans (hq11.below (by first | omega | (simp; omega) | simp) HB10.out.size))
    have HW11 := Lib.hid (HW10.out.within hq11 (fun x hx => .inl (by have := (HIW.out x hx).2; first | omega | (simp; omega))))
    have HG11 := Lib.hid hr11
    clear hr11 hw11 hq11 HX10 HB10 HW10 HG10
    go_wp2_with fail
    refine (heldIntS_any 1 (by omega) (by omega) (by omega) HG11.out.ints).mono ?_
    rintro e w12 ⟨rfl, rfl⟩
    rw [heldI_marked]
    have c0 := HX11.out.cells
    go_wp2_with fail
    refine (HTO.out _ HB11.out).mono ?_
    rintro e w13 ⟨vh0, rfl, ho13, hb13⟩
    simp only [bval, bcells]
    have HW13 := Lib.hid (HW11.out.below hb13 (Nat.le_refl _))
    have HG13 := Lib.hid (HG11.out.below hb13 (Nat.le_refl _))
    have HB13 := Lib.hid (HB11.out.trans (hb13.mono HB11.out.size))
    have HO13 := Lib.hid ho13
    clear ho13 hb13 HW11 HG11 HB11 HX11 c0
    go_wp2_with fail
    refine (HIM.out _ vh0 HO13.out.read).mono ?_
    rintro e w14 ⟨Ah, ch, rfl, hr14, hb14⟩
    have HW14 := Lib.hid (HW13.out.below hb14 (Nat.le_refl _))
    have HG14 := Lib.hid (HG13.out.below hb14 (Nat.le_refl _))
    have HB14 := Lib.hid (HB13.out.trans (hb14.mono HB13.out.size))
    have HH14 := Lib.hid hr14
    clear hb14 hr14 HB13 HW13 HG13 HO13
    go_wp2_with fail
    refine (eqIntS_same (by omega) HH14.out.ints HW14.out.ints).mono ?_
    rintro e w15 ⟨rfl, hb15⟩
    have HG15 := Lib.hid (HG14.out.below hb15 (Nat.le_refl _))
    have HB15 := Lib.hid (HB14.out.trans (hb15.mono HB14.out.size))
    clear hb15 HG14 HB14 HW14 HH14
    go_wp2_with fail
    refine (heldIntS_any 1 (by omega) (by omega) (by omega) HG15.out.ints).mono ?_
    rintro e w16 ⟨rfl, rfl⟩
    rw [heldI_marked]
    go_wp2
    go_ret
    exact ⟨rfl, HB15.out⟩
end Go.Proofs.Ytailpiagjemhpaa
