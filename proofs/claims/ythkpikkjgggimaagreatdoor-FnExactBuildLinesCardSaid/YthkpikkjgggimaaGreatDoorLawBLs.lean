/-
  The law FnExactBuildLines: the walk. No claim stands here.
-/
import Derived.Test.YthkpikkjgggimaaGreatDoorMarkBT
import Derived.Deep.RegionHeld3
namespace Go.Proofs.YthkpikkjgggimaaGreatDoor
open Go.RowKit
set_option linter.unusedVariables false
set_option linter.unusedSimpArgs false

theorem linesN_le (b : Bld) (n : Nat) : b.linesN n ≤ 40 := by
  cases h : b.linesOk n
  · rw [(lines_no (t := fun _ => ByteArray.empty) h).2]; omega
  · rw [(lines_yes (t := fun _ => ByteArray.empty) h).2]
    simp only [Bld.linesOk, Bool.and_eq_true, decide_eq_true_eq] at h
    exact h.2
theorem lines_eight (b : Bld) (t : Nat → ByteArray) (n : Nat) : (b.linesB t n).n ≤ 8 ∧ (b.linesB t n).nu ≤ 8 ∧ (b.linesB t n).nd ≤ 8 ∧ (b.linesB t n).nc ≤ 8 := by
  cases h : b.linesOk n
  · rw [(lines_no h).1]; simp [Bld.none]
  · rw [(lines_yes h).1]
    simp only [Bld.linesOk, Bool.and_eq_true] at h
    have hz := (runL_ok (valid_iff.1 h.1) t n).sizes
    omega
theorem Drew.below' {w w' : World} (h : Drew w w') : Below w.heap.size w w' := h.below

/-- What the size of a building says, and that it is not more than was left. -/
def SzPostL (b : Bld) (w : World) (e : Ending) (w' : World) : Prop :=
  ∃ x : Int, e = .returned (.int .i64 x) ∧ (x < 0 ∨ (0 ≤ x ∧ x ≤ 1048576 ∧ b.n ≤ 1048576 ∧ b.nu ≤ 1048576 ∧ b.nd ≤ 1048576 ∧ b.nc ≤ 1048576)) ∧ Below w.heap.size w w'
set_option maxHeartbeats 800000 in
theorem szBuilding_leL {w : World} {v : Bv} {b : Bld} (hn : b.n ≤ 9223372036854775807) (n1 : b.nu ≤ 9223372036854775807) (n2 : b.nd ≤ 9223372036854775807) (n3 : b.nc ≤ 9223372036854775807) :
    Calls Tryz.prog 16 #[bval v b, .int .i64 1048576] w (SzPostL b w) := by
  have HX0 := Lib.hid (Bx.new w (bcells v b) 55)
  have HB0 := Lib.hid ((Below.refl w.heap.size w).alloc (Nat.le_refl _) (.cells (bcells v b) 55))
  unfold bval bcells at *
  go_enter Tryz.func16, Tryz.ntmps16
  go_wp2_with fail
  refine (szIntS_any 1048576 (by omega) (by omega) hn).mono ?_
  rintro e w1 ⟨rfl, rfl⟩
  have g1 := sz_cases 1048576 b.n (by omega)
  generalize szOf 1048576 b.n = l1 at *
  rcases g1 with rfl | ⟨a1, a2, a3⟩
  · go_wp2
    go_ret
    exact ⟨-1, rfl, .inl (by omega), HB0.out⟩
  · go_wp2_with fail
    refine (szCalls_any l1 a1 (by omega) n1 n2 n3).mono ?_
    rintro e w2 ⟨x, rfl, hx, hb2⟩
    have HB2 := Lib.hid (HB0.out.trans (hb2.mono HB0.out.size))
    clear hb2 HB0 HX0
    rcases hx with hx0 | ⟨hx0, hx1, hx2, hx3, hx4⟩
    · go_wp2
      go_ret
      exact ⟨-1, rfl, .inl (by omega), HB2.out⟩
    · go_wp2
      go_ret
      exact ⟨x, rfl, .inr ⟨by omega, by omega, by omega, hx2, hx3, hx4⟩, HB2.out⟩

set_option maxRecDepth 100000 in
set_option maxHeartbeats 25600000 in
theorem law_ExactBuildLines {w : World} {v : Bv} {b : Bld} (hn : b.n ≤ 9223372036854775807) (n1 : b.nu ≤ 9223372036854775807) (n2 : b.nd ≤ 9223372036854775807) (n3 : b.nc ≤ 9223372036854775807) (hr : ReadB w w.heap.size v b)
    {A : Option Addr} {n c : Nat} {t : Nat → ByteArray} (hl : n ≤ 9223372036854775807 ∧ ∀ i, i < n → (t i).size ≤ 9223372036854775807) (ht : Texts w w.heap.size A n t) (hh : Here w) :
    Calls Tryz.prog 5 #[bval v b, .slice A n c] w fun e w' => e = .returned (.bool true) ∧ Below w.heap.size w w' := by
  have HX0 := Lib.hid (Bx.new w (bcells v b) 55)
  have HB0 := Lib.hid ((Below.refl w.heap.size w).alloc (Nat.le_refl _) (.cells (bcells v b) 55))
  have HR := Lib.hid hr
  have HH := Lib.hid hh
  have HTX := Lib.hid ht
  have HL := Lib.hid hl
  clear hr hh ht
  unfold bval bcells at *
  go_enter Tryz.func5, Tryz.ntmps5
  go_wp2_with fail
  refine (szBuilding_leL hn n1 n2 n3).mono ?_
  rintro e w1 ⟨x, rfl, hx, hb1⟩
  have HX1 := Lib.hid (HX0.out.below hb1 HX0.out.lt)
  have HB1 := Lib.hid (HB0.out.trans (hb1.mono HB0.out.size))
  clear hb1 HX0 HB0
  have c0 := HX1.out.cells
  rcases hx with hx | ⟨x0, xm, x1, x2, x3, x4⟩
  · go_wp2
    go_ret
    exact ⟨rfl, HB1.out⟩
  · have hle := HL.out.1
    have hls := HL.out.2
    go_wp2_with fail
    refine (szStringS_any (t := t) x x0 xm hle hls (HTX.out.below HB1.out)).mono ?_
    rintro e w1' ⟨y, rfl, hy, rfl⟩
    rcases hy with hy | ⟨y0, y1, y2, y3⟩
    · go_wp2
      go_ret
      exact ⟨rfl, HB1.out⟩
    · have HSm : Hid b.Small := Lib.hid ⟨by omega, by omega, by omega, by omega⟩
      have HTZ : Hid (∀ i, i < n → (t i).size ≤ 1048576) := Lib.hid (fun i hi => by have := y3 i hi; omega)
      have hnn : n ≤ 1048576 := by omega
      have HBS : Hid (b.n ≤ 1048576 ∧ b.nu ≤ 1048576 ∧ b.nd ≤ 1048576 ∧ b.nc ≤ 1048576) := Lib.hid ⟨by omega, by omega, by omega, by omega⟩
      clear hn n1 n2 n3 x1 x2 x3 x4 xm y1 y2 y3 hle hls HL hl
      have HTO : Hid (∀ W : World, Below w.heap.size w W → Calls Tryz.prog 18 #[bval v b] W fun e w' => ∃ v', e = .returned (bval v' b) ∧ OwnB w' W.heap.size v' b ∧ Below W.heap.size W w') :=
        Lib.hid (fun W hW => toBuilding_any (by have := HBS.out; omega) (by have := HBS.out; omega) (by have := HBS.out; omega) (by have := HBS.out; omega) hW.size (HR.out.below hW))
      have HTS : Hid (∀ W : World, Below w.heap.size w W → Calls Tryz.prog 23 #[.slice A n c] W fun e w' => ∃ A' c', e = .returned (.slice A' n c') ∧ RowT w' W.heap.size A' n c' t ∧ Below W.heap.size W w') :=
        Lib.hid (fun W hW => toStringS_any (by omega) hW.size (HTX.out.below hW))
      have HRS := Lib.hid (lines_small b t n)
      have HR8 := Lib.hid (lines_eight b t n)
      have hrn := linesN_le b n
      have HSP : Hid (∀ (W : World) (v' : Bv) (A' : Option Addr) (c' : Nat), Below w.heap.size w W → ReadB W W.heap.size v' b → Texts W W.heap.size A' n t → Calls Tryz.prog 9 #[bval v' b, .slice A' n c'] W (LinesPost b t n W)) := Lib.hid (fun W v' A' c' hb h h' => spec_BuildLines HSm.out (Nat.le_refl _) h (by omega) h' HTZ.out (HH.out.below hb))
      have HIM : Hid (∀ (W : World) (v' : Bv) (A' : Option Addr) (c' : Nat), Below w.heap.size w W → ReadB W W.heap.size v' b → Texts W W.heap.size A' n t → Calls Tryz.prog 8 #[bval v' b, .slice A' n c'] W (LinesPost b t n W)) := Lib.hid (fun W v' A' c' hb h h' => impl_BuildLines HSm.out (Nat.le_refl _) h (by omega) h' HTZ.out (HH.out.below hb))
      unfold LinesPost at HSP HIM
      generalize b.linesB t n = r at *
      generalize b.linesN n = rn at *
      generalize b.ansL t = ra at *
      have HEQ : Hid (∀ (W : World) (A1 A2 : Option Addr) (c1 c2 : Nat), Texts W W.heap.size A1 rn ra → Texts W W.heap.size A2 rn ra → Calls Tryz.prog 24 #[.slice A1 rn c1, .slice A2 rn c2] W fun e w' => e = .returned (.bool true) ∧ Below W.heap.size W w') := Lib.hid (fun W A1 A2 c1 c2 h h' => (eqStringS_any (by omega) h h').mono fun e w' q => ⟨by rw [q.1, eqBt_refl], q.2.below⟩)
      have HEQ2 : Hid (∀ (W : World) (A1 A2 : Option Addr) (c1 c2 : Nat), Texts W W.heap.size A1 n t → Texts W W.heap.size A2 n t → Calls Tryz.prog 24 #[.slice A1 n c1, .slice A2 n c2] W fun e w' => e = .returned (.bool true) ∧ Below W.heap.size W w') := Lib.hid (fun W A1 A2 c1 c2 h h' => (eqStringS_any (by omega) h h').mono fun e w' q => ⟨by rw [q.1, eqBt_refl], q.2.below⟩)
      go_wp2_with fail
      refine (HTO.out _ HB1.out).mono ?_
      rintro e w2 ⟨v1, rfl, ho2, hb2⟩
      clear x0 y0
      simp only [bval, bcells]
      have HX2 := Lib.hid (HX1.out.below hb2 HX1.out.lt)
      have HB2 := Lib.hid (HB1.out.trans (hb2.mono HB1.out.size))
      have HO2 := Lib.hid ho2
      have q2 := HX2.out.lt
      clear hb2 ho2 c0 HX1 HB1
      go_wp2_with fail
      refine (HTS.out _ HB2.out).mono ?_
      rintro e w3 ⟨A3, c3, rfl, hr3, hb3⟩
      have HX3 := Lib.hid (HX2.out.below hb3 HX2.out.lt)
      have HB3 := Lib.hid (HB2.out.trans (hb3.mono HB2.out.size))
      have HO3 := Lib.hid (ownB_below HO2.out hb3)
      have HR3 := Lib.hid hr3
      have q3 : w2.heap.size ≤ w3.heap.size := hb3.size
      clear hb3 hr3 HX2 HB2 HO2
      go_wp2_with fail
      refine (HSP.out _ v1 A3 c3 HB3.out HO3.out.read HR3.out.texts).mono ?_
      rintro e w4 ⟨vw, Aw, cw, rfl, ho4, hr4, hb4⟩
      simp only [bval, bcells]
      have HX4 := Lib.hid ((HX3.out.below hb4 HX3.out.lt).alloc (.cells (bcells vw r) 36))
      have HB4 := Lib.hid ((HB3.out.trans (hb4.mono HB3.out.size)).alloc (Nat.le_trans HB3.out.size hb4.size) (.cells (bcells vw r) 36))
      have HW4 := Lib.hid (Held.new ho4 36)
      have HWT4 := Lib.hid ((HT.new hr4).alloc (.cells (bcells vw r) 36))
      have q4 : w3.heap.size ≤ w4.heap.size := hb4.size
      clear hb4 ho4 hr4 HX3 HB3 HO3 HR3
      unfold bcells at HX4 HB4 HW4 HWT4
      have c0 := HX4.out.cells
      go_wp2_with fail
      refine (HTO.out _ HB4.out).mono ?_
      rintro e w5 ⟨vx, rfl, ho5, hb5⟩
      simp only [bval, bcells]
      have HX5 := Lib.hid ((HX4.out.below hb5 HX4.out.lt).alloc (.cells (bcells vx b) 36))
      have HB5 := Lib.hid ((HB4.out.trans (hb5.mono HB4.out.size)).alloc (Nat.le_trans HB4.out.size hb5.size) (.cells (bcells vx b) 36))
      have HW5 := Lib.hid ((HW4.out.call hb5).alloc (.cells (bcells vx b) 36))
      have HWT5 := Lib.hid ((HWT4.out.call hb5).alloc (.cells (bcells vx b) 36))
      have HK5 := Lib.hid (Held.new ho5 36)
      have q5 : w4.heap.size + 1 ≤ w5.heap.size := by have := hb5.size; simpa using this
      clear hb5 ho5 c0 HX4 HB4 HW4 HWT4
      unfold bcells at HX5 HB5 HW5 HWT5 HK5
      go_wp2_with fail
      refine (HTS.out _ HB5.out).mono ?_
      rintro e w6 ⟨Ax, cx, rfl, hr6, hb6⟩
      have HX6 := Lib.hid (HX5.out.below hb6 HX5.out.lt)
      have HB6 := Lib.hid (HB5.out.trans (hb6.mono HB5.out.size))
      have HW6 := Lib.hid (HW5.out.call hb6)
      have HWT6 := Lib.hid (HWT5.out.call hb6)
      have HK6 := Lib.hid (HK5.out.call hb6)
      have HXT6 := Lib.hid (HT.new hr6)
      have q6 : w5.heap.size + 1 ≤ w6.heap.size := by have := hb6.size; simpa using this
      clear hb6 hr6 HX5 HB5 HW5 HWT5 HK5
      have c2 := HK6.out.cells
      go_wp2_with fail
      refine (HIM.out _ vx Ax cx HB6.out HK6.out.read HXT6.out.texts).mono ?_
      rintro e w7 ⟨vg, Ag, cg, rfl, ho7, hr7, hb7⟩
      simp only [bval, bcells]
      have HX7 := Lib.hid ((HX6.out.below hb7 HX6.out.lt).alloc (.cells (bcells vg r) 36))
      have HB7 := Lib.hid ((HB6.out.trans (hb7.mono HB6.out.size)).alloc (Nat.le_trans HB6.out.size hb7.size) (.cells (bcells vg r) 36))
      have HW7 := Lib.hid ((HW6.out.call hb7).alloc (.cells (bcells vg r) 36))
      have HWT7 := Lib.hid ((HWT6.out.call hb7).alloc (.cells (bcells vg r) 36))
      have HK7 := Lib.hid ((HK6.out.call hb7).alloc (.cells (bcells vg r) 36))
      have HXT7 := Lib.hid ((HXT6.out.call hb7).alloc (.cells (bcells vg r) 36))
      have HG7 := Lib.hid (Held.new ho7 36)
      have HGT7 := Lib.hid ((HT.new hr7).alloc (.cells (bcells vg r) 36))
      have q7 : w6.heap.size ≤ w7.heap.size := hb7.size
      clear hb7 ho7 hr7 c2 HX6 HB6 HW6 HWT6 HK6 HXT6
      unfold bcells at HX7 HB7 HW7 HWT7 HK7 HXT7 HG7 HGT7
      have c1 := HW7.out.cells
      have c3 := HG7.out.cells
      go_wp2_with fail
      refine (eqBuilding_same (b := r) HRS.out (Nat.le_refl _) (Nat.le_refl _) HG7.out.read HW7.out.read).mono ?_
      rintro e w8 ⟨rfl, hb8⟩
      have HX8 := Lib.hid (HX7.out.below hb8 HX7.out.lt)
      have HB8 := Lib.hid (HB7.out.trans (hb8.mono HB7.out.size))
      have HW8 := Lib.hid (HW7.out.call hb8)
      have HWT8 := Lib.hid (HWT7.out.call hb8)
      have HK8 := Lib.hid (HK7.out.call hb8)
      have HXT8 := Lib.hid (HXT7.out.call hb8)
      have HG8 := Lib.hid (HG7.out.call hb8)
      have HGT8 := Lib.hid (HGT7.out.call hb8)
      clear hb8 c1 c3 HX7 HB7 HW7 HWT7 HK7 HXT7 HG7 HGT7
      go_wp2_with fail
      refine (HEQ.out _ Ag Aw cg cw HGT8.out.texts HWT8.out.texts).mono ?_
      rintro e w9 ⟨rfl, hb9⟩
      have HX9 := Lib.hid (HX8.out.below hb9 HX8.out.lt)
      have HB9 := Lib.hid (HB8.out.trans (hb9.mono HB8.out.size))
      have HW9 := Lib.hid (HW8.out.call hb9)
      have HWT9 := Lib.hid (HWT8.out.call hb9)
      have HK9 := Lib.hid (HK8.out.call hb9)
      have HXT9 := Lib.hid (HXT8.out.call hb9)
      have HG9 := Lib.hid (HG8.out.call hb9)
      have HGT9 := Lib.hid (HGT8.out.call hb9)
      clear hb9 HX8 HB8 HW8 HWT8 HK8 HXT8 HG8 HGT8
      have c0 := HX9.out.cells
      have c2 := HK9.out.cells
      go_wp2
      go_region_held3 (fun w' => (∀ o, w'.cell? ⟨w.heap.size, o, none⟩ = (#[.slice v.A b.n v.c, .int .i64 b.pos, .int .i64 b.sp, .int .i64 b.gap, .int .i64 b.hold, .slice v.U b.nu v.cu, .slice v.D b.nd v.cd, .slice v.C b.nc v.cc, .int .i64 b.fl, .int .i64 b.dir, .bool b.op] : Array Value)[o]?) ∧ (∀ o, w'.cell? ⟨w5.heap.size, o, none⟩ = (#[.slice vx.A b.n vx.c, .int .i64 b.pos, .int .i64 b.sp, .int .i64 b.gap, .int .i64 b.hold, .slice vx.U b.nu vx.cu, .slice vx.D b.nd vx.cd, .slice vx.C b.nc vx.cc, .int .i64 b.fl, .int .i64 b.dir, .bool b.op] : Array Value)[o]?)) (first | exact ⟨HX9.out.cells, HK9.out.cells⟩ | exact ⟨HX10.out.cells, HK10.out.cells⟩ | exact ⟨HX11.out.cells, HK11.out.cells⟩) (first
        | (go_at_call 18; refine (HTO.out _ HB9.out.drew).mono ?_; rintro e w10 ⟨v10, rfl, ho10, hb10⟩; simp only [bval, bcells]; have HX10 := Lib.hid (HX9.out.below (w := w9.drew) hb10 HX9.out.lt); have HK10 := Lib.hid (HK9.out.drew.call hb10); have HW10 := Lib.hid (HW9.out.drew.call hb10); have HG10 := Lib.hid (HG9.out.drew.call hb10); have HWT10 := Lib.hid (HWT9.out.drew.call hb10); have HXT10 := Lib.hid (HXT9.out.drew.call hb10); have HGT10 := Lib.hid (HGT9.out.drew.call hb10); have HB10 := Lib.hid (HB9.out.drew.trans (hb10.mono HB9.out.size)))
        | (go_at_call 19; refine (eqBuilding_same (v := vx) (v' := v10) (b := b) HSm.out (Nat.le_refl _) (Nat.le_refl _) HK10.out.read ho10.read).mono ?_; rintro e w11 ⟨rfl, hb11⟩; have HX11 := Lib.hid (HX10.out.below hb11 HX10.out.lt); have HK11 := Lib.hid (HK10.out.call hb11); have HW11 := Lib.hid (HW10.out.call hb11); have HG11 := Lib.hid (HG10.out.call hb11); have HWT11 := Lib.hid (HWT10.out.call hb11); have HXT11 := Lib.hid (HXT10.out.call hb11); have HGT11 := Lib.hid (HGT10.out.call hb11); have HB11 := Lib.hid (HB10.out.trans (hb11.mono HB10.out.size)); have c11 := HK11.out.cells))
      clear hb10 hb11 ho10 HX9 HB9 HW9 HWT9 HK9 HXT9 HG9 HGT9 HX10 HB10 HW10 HWT10 HK10 HXT10 HG10 HGT10 c0 c2
      go_wp2_with fail
      refine (HTS.out _ HB11.out).mono ?_
      rintro e w12 ⟨Ay, cy, rfl, hr12, hb12⟩
      have HX12 := Lib.hid (HX11.out.below hb12 HX11.out.lt)
      have HB12 := Lib.hid (HB11.out.trans (hb12.mono HB11.out.size))
      have HW12 := Lib.hid (HW11.out.call hb12)
      have HWT12 := Lib.hid (HWT11.out.call hb12)
      have HK12 := Lib.hid (HK11.out.call hb12)
      have HXT12 := Lib.hid (HXT11.out.call hb12)
      have HG12 := Lib.hid (HG11.out.call hb12)
      have HGT12 := Lib.hid (HGT11.out.call hb12)
      have HY12 := Lib.hid hr12
      clear hb12 hr12 c11 HX11 HB11 HW11 HWT11 HK11 HXT11 HG11 HGT11
      go_wp2_with fail
      refine (HEQ2.out _ Ax Ay cx cy HXT12.out.texts HY12.out.texts).mono ?_
      rintro e w13 ⟨rfl, hb13⟩
      have HX13 := Lib.hid (HX12.out.below hb13 HX12.out.lt)
      have HB13 := Lib.hid (HB12.out.trans (hb13.mono HB12.out.size))
      have HW13 := Lib.hid (HW12.out.call hb13)
      have HWT13 := Lib.hid (HWT12.out.call hb13)
      have HK13 := Lib.hid (HK12.out.call hb13)
      have HXT13 := Lib.hid (HXT12.out.call hb13)
      have HG13 := Lib.hid (HG12.out.call hb13)
      have HGT13 := Lib.hid (HGT12.out.call hb13)
      clear hb13 HY12 HX12 HB12 HW12 HWT12 HK12 HXT12 HG12 HGT12
      have c2 := HK13.out.cells
      go_wp2_with fail
      refine (markBuilding_any 1 HSm.out (by omega) (by omega) HK13.out.o HK13.out.i HK13.out.top).mono ?_
      rintro e w14 ⟨rfl, ho14, hw14⟩
      have HX14 := Lib.hid (HX13.out.within hw14 (.inl (by first | omega | (simp; omega) | simp)))
      have HB14 := Lib.hid (HB13.out.trans (hw14.below (by first | omega | (simp; omega) | simp) HB13.out.size))
      have HW14 := Lib.hid (HW13.out.within hw14 (.inl (by first | omega | (simp; omega) | simp)) (.inl (by first | omega | (simp; omega) | simp)))
      have HWT14 := Lib.hid (HWT13.out.within hw14 (.inl (by first | omega | (simp; omega) | simp)))
      have HG14 := Lib.hid (HG13.out.within hw14 (.inr (by first | omega | (simp; omega) | simp)) (.inr (by first | omega | (simp; omega) | simp)))
      have HGT14 := Lib.hid (HGT13.out.within hw14 (.inr (by first | omega | (simp; omega) | simp)))
      have HXT14 := Lib.hid (HXT13.out.within hw14 (.inr (by first | omega | (simp; omega) | simp)))
      clear ho14 hw14 c2 HX13 HB13 HW13 HWT13 HK13 HXT13 HG13 HGT13
      have hM : (1 : Int) ≤ 1 + b.n + b.nu + b.nd + b.nc ∧ (1 : Int) + b.n + b.nu + b.nd + b.nc ≤ 90000000 := by obtain ⟨s1, s2, s3, s4⟩ := HBS.out; omega
      obtain ⟨hM1, hM2⟩ := hM
      generalize (1 : Int) + b.n + b.nu + b.nd + b.nc = M at *
      go_wp2_with fail
      refine (markStringS_any M (by omega) (by omega) HXT14.out.row).mono ?_
      rintro e w15 ⟨rfl, hr15, hwr15⟩
      have hw15 := Within.of_wrote hwr15 HXT14.out.i
      have HX15 := Lib.hid (HX14.out.within hw15 (.inl (by first | omega | (simp; omega) | simp)))
      have HB15 := Lib.hid (HB14.out.trans (hw15.below (by first | omega | (simp; omega) | simp) HB14.out.size))
      have HW15 := Lib.hid (HW14.out.within hw15 (.inl (by first | omega | (simp; omega) | simp)) (.inl (by first | omega | (simp; omega) | simp)))
      have HWT15 := Lib.hid (HWT14.out.within hw15 (.inl (by first | omega | (simp; omega) | simp)))
      have HG15 := Lib.hid (HG14.out.within hw15 (.inr (by first | omega | (simp; omega) | simp)) (.inr (by first | omega | (simp; omega) | simp)))
      have HGT15 := Lib.hid (HGT14.out.within hw15 (.inr (by first | omega | (simp; omega) | simp)))
      clear hr15 hwr15 hw15 HX14 HB14 HW14 HWT14 HXT14 HG14 HGT14
      have hM3 : (0 : Int) ≤ M + n := by omega
      generalize M + (n : Int) = M2 at *
      have c1 := HW15.out.cells
      have c3 := HG15.out.cells
      go_wp2_with fail
      refine (eqBuilding_same (b := r) HRS.out (Nat.le_refl _) (Nat.le_refl _) HG15.out.read HW15.out.read).mono ?_
      rintro e w16 ⟨rfl, hb16⟩
      have HX16 := Lib.hid (HX15.out.below hb16 HX15.out.lt)
      have HB16 := Lib.hid (HB15.out.trans (hb16.mono HB15.out.size))
      have HW16 := Lib.hid (HW15.out.call hb16)
      have HWT16 := Lib.hid (HWT15.out.call hb16)
      have HG16 := Lib.hid (HG15.out.call hb16)
      have HGT16 := Lib.hid (HGT15.out.call hb16)
      clear hb16 c1 c3 HX15 HB15 HW15 HWT15 HG15 HGT15
      go_wp2_with fail
      refine (HEQ.out _ Ag Aw cg cw HGT16.out.texts HWT16.out.texts).mono ?_
      rintro e w17 ⟨rfl, hb17⟩
      have HX17 := Lib.hid (HX16.out.below hb17 HX16.out.lt)
      have HB17 := Lib.hid (HB16.out.trans (hb17.mono HB16.out.size))
      have HW17 := Lib.hid (HW16.out.call hb17)
      have HWT17 := Lib.hid (HWT16.out.call hb17)
      have HG17 := Lib.hid (HG16.out.call hb17)
      have HGT17 := Lib.hid (HGT16.out.call hb17)
      clear hb17 HX16 HB16 HW16 HWT16 HG16 HGT16
      have c3 := HG17.out.cells
      go_wp2_with fail
      refine (markBuildingT_any 1 HRS.out (by omega) (by omega) HG17.out.o HG17.out.i HG17.out.top).mono ?_
      rintro e w18 ⟨rfl, ho18, hw18, hk18⟩
      have HX18 := Lib.hid (HX17.out.within hw18 (.inl (by first | omega | (simp; omega) | simp)))
      have HB18 := Lib.hid (HB17.out.trans (hw18.below (by first | omega | (simp; omega) | simp) HB17.out.size))
      have HW18 := Lib.hid (HW17.out.within hw18 (.inl (by first | omega | (simp; omega) | simp)) (.inl (by first | omega | (simp; omega) | simp)))
      have HWT18 := Lib.hid (HWT17.out.within hw18 (.inl (by first | omega | (simp; omega) | simp)))
      have HG18 := Lib.hid (HG17.out.marked ho18 hw18)
      have HGT18 := Lib.hid (HGT17.out.keep hk18 hw18.size)
      clear ho18 hw18 hk18 c3 HX17 HB17 HW17 HWT17 HG17 HGT17
      have hN : (1 : Int) ≤ 1 + r.n + r.nu + r.nd + r.nc ∧ (1 : Int) + r.n + r.nu + r.nd + r.nc ≤ 90000000 := by obtain ⟨s1, s2, s3, s4⟩ := HR8.out; omega
      obtain ⟨hN1, hN2⟩ := hN
      generalize hNN : (1 : Int) + r.n + r.nu + r.nd + r.nc = N at *
      have HNN := Lib.hid hNN
      clear hNN
      go_wp2_with fail
      refine (markStringS_any N (by omega) (by omega) HGT18.out.row).mono ?_
      rintro e w19 ⟨rfl, hr19, hwr19⟩
      have hw19 := Within.of_wrote hwr19 HGT18.out.i
      have HX19 := Lib.hid (HX18.out.within hw19 (.inl (by first | omega | (simp; omega) | simp)))
      have HB19 := Lib.hid (HB18.out.trans (hw19.below (by first | omega | (simp; omega) | simp) HB18.out.size))
      have HW19 := Lib.hid (HW18.out.within hw19 (.inl (by first | omega | (simp; omega) | simp)) (.inl (by first | omega | (simp; omega) | simp)))
      have HWT19 := Lib.hid (HWT18.out.within hw19 (.inl (by first | omega | (simp; omega) | simp)))
      have HG19 := Lib.hid (HG18.out.wroteT HGT18.out hwr19)
      have HGT19 : Hid (HT w19 w6.heap.size w7.heap.size Ag rn cg (markedT N)) := Lib.hid ⟨hr19, HGT18.out.i, Nat.le_trans HGT18.out.le hwr19.size⟩
      clear hr19 hwr19 hw19 HX18 HB18 HW18 HWT18 HG18 HGT18
      have hN3 : (0 : Int) ≤ N + rn := by omega
      generalize hNR : N + (rn : Int) = N2 at *
      have HNR := Lib.hid hNR
      clear hNR
      have c3 := HG19.out.cells
      go_wp2_with fail
      refine (heldBuilding_same (b := r) 1 HRS.out (by omega) (by omega) (Nat.le_refl _) HG19.out.read).mono ?_
      rintro e w20 ⟨rfl, hb20⟩
      rw [HNN.out]
      have HX20 := Lib.hid (HX19.out.below hb20 HX19.out.lt)
      have HB20 := Lib.hid (HB19.out.trans (hb20.mono HB19.out.size))
      have HW20 := Lib.hid (HW19.out.call hb20)
      have HWT20 := Lib.hid (HWT19.out.call hb20)
      have HG20 := Lib.hid (HG19.out.call hb20)
      have HGT20 := Lib.hid (HGT19.out.call hb20)
      clear hb20 c3 HX19 HB19 HW19 HWT19 HG19 HGT19
      go_wp2_with fail
      refine (heldStringS_same N (by omega) (by omega) (Nat.le_refl _) HGT20.out.texts).mono ?_
      rintro e w21 ⟨rfl, hb21⟩
      rw [HNR.out]
      have HX21 := Lib.hid (HX20.out.below hb21 HX20.out.lt)
      have HB21 := Lib.hid (HB20.out.trans (hb21.mono HB20.out.size))
      have HW21 := Lib.hid (HW20.out.call hb21)
      have HWT21 := Lib.hid (HWT20.out.call hb21)
      have HG21 := Lib.hid (HG20.out.call hb21)
      have HGT21 := Lib.hid (HGT20.out.call hb21)
      clear hb21 HX20 HB20 HW20 HWT20 HG20 HGT20
      have c0 := HX21.out.cells
      go_wp2_with fail
      refine (HTO.out _ HB21.out).mono ?_
      rintro e w22 ⟨vh0, rfl, ho22, hb22⟩
      simp only [bval, bcells]
      have HX22 := Lib.hid (HX21.out.below hb22 HX21.out.lt)
      have HB22 := Lib.hid (HB21.out.trans (hb22.mono HB21.out.size))
      have HW22 := Lib.hid (HW21.out.call hb22)
      have HWT22 := Lib.hid (HWT21.out.call hb22)
      have HG22 := Lib.hid (HG21.out.call hb22)
      have HGT22 := Lib.hid (HGT21.out.call hb22)
      have HO22 := Lib.hid ho22
      clear hb22 ho22 c0 HX21 HB21 HW21 HWT21 HG21 HGT21
      go_wp2_with fail
      refine (HTS.out _ HB22.out).mono ?_
      rintro e w23 ⟨Ah0, ch0, rfl, hr23, hb23⟩
      have HX23 := Lib.hid (HX22.out.below hb23 HX22.out.lt)
      have HB23 := Lib.hid (HB22.out.trans (hb23.mono HB22.out.size))
      have HW23 := Lib.hid (HW22.out.call hb23)
      have HWT23 := Lib.hid (HWT22.out.call hb23)
      have HG23 := Lib.hid (HG22.out.call hb23)
      have HGT23 := Lib.hid (HGT22.out.call hb23)
      have HO23 := Lib.hid (ownB_below HO22.out hb23)
      have HY23 := Lib.hid hr23
      clear hb23 hr23 HO22 HX22 HB22 HW22 HWT22 HG22 HGT22
      go_wp2_with fail
      refine (HIM.out _ vh0 Ah0 ch0 HB23.out HO23.out.read HY23.out.texts).mono ?_
      rintro e w24 ⟨vh, Ah, ch, rfl, ho24, hr24, hb24⟩
      simp only [bval, bcells]
      have HX24 := Lib.hid ((HX23.out.below hb24 HX23.out.lt).alloc (.cells (bcells vh r) 36))
      have HB24 := Lib.hid ((HB23.out.trans (hb24.mono HB23.out.size)).alloc (Nat.le_trans HB23.out.size hb24.size) (.cells (bcells vh r) 36))
      have HW24 := Lib.hid ((HW23.out.call hb24).alloc (.cells (bcells vh r) 36))
      have HWT24 := Lib.hid ((HWT23.out.call hb24).alloc (.cells (bcells vh r) 36))
      have HG24 := Lib.hid ((HG23.out.call hb24).alloc (.cells (bcells vh r) 36))
      have HGT24 := Lib.hid ((HGT23.out.call hb24).alloc (.cells (bcells vh r) 36))
      have HH24 := Lib.hid (Held.new ho24 36)
      have HHT24 := Lib.hid ((HT.new hr24).alloc (.cells (bcells vh r) 36))
      clear hb24 ho24 hr24 HO23 HY23 HX23 HB23 HW23 HWT23 HG23 HGT23
      unfold bcells at HX24 HB24 HW24 HWT24 HG24 HGT24 HH24 HHT24
      have c1 := HW24.out.cells
      have c4 := HH24.out.cells
      go_wp2_with fail
      refine (eqBuilding_same (b := r) HRS.out (Nat.le_refl _) (Nat.le_refl _) HH24.out.read HW24.out.read).mono ?_
      rintro e w25 ⟨rfl, hb25⟩
      have HX25 := Lib.hid (HX24.out.below hb25 HX24.out.lt)
      have HB25 := Lib.hid (HB24.out.trans (hb25.mono HB24.out.size))
      have HW25 := Lib.hid (HW24.out.call hb25)
      have HWT25 := Lib.hid (HWT24.out.call hb25)
      have HG25 := Lib.hid (HG24.out.call hb25)
      have HGT25 := Lib.hid (HGT24.out.call hb25)
      have HHT25 := Lib.hid (HHT24.out.call hb25)
      clear hb25 c1 c4 HH24 HHT24 HX24 HB24 HW24 HWT24 HG24 HGT24
      go_wp2_with fail
      refine (HEQ.out _ Ah Aw ch cw HHT25.out.texts HWT25.out.texts).mono ?_
      rintro e w26 ⟨rfl, hb26⟩
      have HX26 := Lib.hid (HX25.out.below hb26 HX25.out.lt)
      have HB26 := Lib.hid (HB25.out.trans (hb26.mono HB25.out.size))
      have HW26 := Lib.hid (HW25.out.call hb26)
      have HWT26 := Lib.hid (HWT25.out.call hb26)
      have HG26 := Lib.hid (HG25.out.call hb26)
      have HGT26 := Lib.hid (HGT25.out.call hb26)
      clear hb26 HHT25 HX25 HB25 HW25 HWT25 HG25 HGT25
      have c3 := HG26.out.cells
      go_wp2_with fail
      refine (heldBuilding_same (b := r) 1 HRS.out (by omega) (by omega) (Nat.le_refl _) HG26.out.read).mono ?_
      rintro e w27 ⟨rfl, hb27⟩
      rw [HNN.out]
      have HX27 := Lib.hid (HX26.out.below hb27 HX26.out.lt)
      have HB27 := Lib.hid (HB26.out.trans (hb27.mono HB26.out.size))
      have HW27 := Lib.hid (HW26.out.call hb27)
      have HWT27 := Lib.hid (HWT26.out.call hb27)
      have HG27 := Lib.hid (HG26.out.call hb27)
      have HGT27 := Lib.hid (HGT26.out.call hb27)
      clear hb27 c3 HX26 HB26 HW26 HWT26 HG26 HGT26
      go_wp2_with fail
      refine (heldStringS_same N (by omega) (by omega) (Nat.le_refl _) HGT27.out.texts).mono ?_
      rintro e w28 ⟨rfl, hb28⟩
      rw [HNR.out]
      have HX28 := Lib.hid (HX27.out.below hb28 HX27.out.lt)
      have HB28 := Lib.hid (HB27.out.trans (hb28.mono HB27.out.size))
      have HW28 := Lib.hid (HW27.out.call hb28)
      have HWT28 := Lib.hid (HWT27.out.call hb28)
      have HG28 := Lib.hid (HG27.out.call hb28)
      have HGT28 := Lib.hid (HGT27.out.call hb28)
      clear hb28 HX27 HB27 HW27 HWT27 HG27 HGT27
      go_wp2
      go_ret
      exact ⟨rfl, HB28.out⟩
end Go.Proofs.YthkpikkjgggimaaGreatDoor
