/-
  What a building answers to a line that asks: buildAnswer, the program's, and l29Ask, the reference's. No claim stands here. (Printed by gentold.py.)
-/
import Derived.Test.YthkpikkjgggimaaGreatDoorCallsT
import Derived.Test.YthkpikkjgggimaaGreatDoorKindT
import Derived.Test.YthkpikkjgggimaaGreatDoorNumI
import Derived.Test.YthkpikkjgggimaaGreatDoorMany
import Derived.Test.YthkpikkjgggimaaGreatDoorBD
import Derived.Test.YthkpikkjgggimaaGreatDoorCallM
namespace Go.Proofs.YthkpikkjgggimaaGreatDoor
open Go.RowKit
set_option linter.unusedVariables false
set_option linter.unusedSimpArgs false

def wWhere : List UInt8 := [119, 104, 101, 114, 101]
def wAt : List UInt8 := [97, 116]
def wSpeed : List UInt8 := [115, 112, 101, 101, 100]
def wDoor : List UInt8 := [100, 111, 111, 114]
def wCalls : List UInt8 := [99, 97, 108, 108, 115]
def wFloors : List UInt8 := [102, 108, 111, 111, 114, 115]
def wQuiet : List UInt8 := [113, 117, 105, 101, 116]
def wTick : List UInt8 := [116, 105, 99, 107]
def wBlock : List UInt8 := [98, 108, 111, 99, 107]
def wRest : List UInt8 := [114, 101, 115, 116]
def rMoving : List UInt8 := [109, 111, 118, 105, 110, 103]
def rYes : List UInt8 := [121, 101, 115]
def rNo : List UInt8 := [110, 111]
def rWhat : List UInt8 := [119, 104, 97, 116]
def rOk : List UInt8 := [111, 107]
/-- What a building answers to a line that only asks. -/
def toldL (b : Bld) (s : ByteArray) : List UInt8 :=
  if isT s wWhere = true then (if b.stand < 0 then rMoving else Lib.itoa b.stand)
  else if isT s wAt = true then Lib.itoa b.pos
  else if isT s wSpeed = true then Lib.itoa b.sp
  else if isT s wDoor = true then Lib.itoa b.gap
  else if isT s wCalls = true then callsT b.nu b.nd b.nc b.up b.dn b.car
  else if isT s wFloors = true then textOf b.f b.n
  else if isT s wQuiet = true then (if b.quiet = true then rYes else rNo)
  else rWhat
theorem stand_range {b : Bld} (h : b.Ok) : -1 ≤ b.stand ∧ b.stand ≤ 8 := by
  have hn := h.sizes
  unfold Bld.stand standF floorAtOf
  split
  · split
    · omega
    · omega
  · omega
set_option maxRecDepth 100000 in
set_option maxHeartbeats 3200000 in
theorem impl_told {w : World} {B : Nat} {v : Bv} {b : Bld} (s : ByteArray) (hok : b.Ok) (hn : b.Small) (hB : B ≤ w.heap.size) (hr : ReadB w B v b) (hh : Here w) :
    Calls Tryz.prog 48 #[bval v b, .string s] w fun e w' => e = .returned (.string ⟨(toldL b s).toArray⟩) ∧ Below w.heap.size w w' := by
  have HX0 := Lib.hid (Bx.new w (bcells v b) 36)
  have HB0 := Lib.hid ((Below.refl w.heap.size w).alloc (Nat.le_refl _) (.cells (bcells v b) 36))
  have HR0 := Lib.hid (hr.alloc hB (.cells (bcells v b) 36))
  have HH0 := Lib.hid (hh.below HB0.out)
  obtain ⟨z1, z2, z3, z4, z5⟩ := hok.sizes
  have hst := stand_range hok
  have hm := motionB_iff.1 hok.motion
  have hd := doorB_iff.1 hok.door
  obtain ⟨⟨p0, p1⟩, p2, p3⟩ := hm
  obtain ⟨⟨d0, d1⟩, -⟩ := hd
  obtain ⟨y0, y1⟩ := hst
  have hnu : b.nu ≤ 8 := by omega
  have hnd : b.nd ≤ 8 := by omega
  have hnc : b.nc ≤ 8 := by omega
  clear z1 z2 z3 z4 hr hok
  unfold bval bcells at *
  have c0 := HX0.out.cells
  cases h0 : isT s wWhere
  rotate_left
  · by_cases hs0 : b.stand < 0
    · have HT : Hid (toldL b s = rMoving) := Lib.hid (by simp [toldL, h0, hs0])
      have g0 : (s.toList == [119, 104, 101, 114, 101]) = true := h0
      clear h0
      go_enter Tryz.func48, Tryz.ntmps48
      go_wp2_with fail
      refine (standingFloor_any b.pos b.sp (by omega) (Nat.le_trans hB (by simp)) HR0.out.h).mono ?_
      rintro e w1 ⟨rfl, hb1⟩
      have HB1 := Lib.hid (HB0.out.trans (hb1.mono HB0.out.size))
      have HH1 := Lib.hid (HH0.out.below hb1)
      have e1 : standF b.f b.n b.pos b.sp = b.stand := rfl
      rw [e1]
      clear hb1 e1
      go_wp2
      go_ret
      exact ⟨by rw [HT.out]; rfl, HB1.out⟩
    · have HT : Hid (toldL b s = Lib.itoa b.stand) := Lib.hid (by simp [toldL, h0, hs0])
      have g0 : (s.toList == [119, 104, 101, 114, 101]) = true := h0
      clear h0
      go_enter Tryz.func48, Tryz.ntmps48
      go_wp2_with fail
      refine (standingFloor_any b.pos b.sp (by omega) (Nat.le_trans hB (by simp)) HR0.out.h).mono ?_
      rintro e w1 ⟨rfl, hb1⟩
      have HB1 := Lib.hid (HB0.out.trans (hb1.mono HB0.out.size))
      have HH1 := Lib.hid (HH0.out.below hb1)
      have e1 : standF b.f b.n b.pos b.sp = b.stand := rfl
      rw [e1]
      clear hb1 e1
      go_wp2_with fail
      refine (Itoa_any b.stand (by omega) (by omega) HH1.out).mono ?_
      rintro e w2 ⟨rfl, hb2⟩
      have HB := Lib.hid (HB1.out.trans (hb2.mono HB1.out.size))
      clear hb2
      go_wp2
      go_ret
      exact ⟨by rw [HT.out]; rfl, HB.out⟩
  cases h1 : isT s wAt
  rotate_left
  · have HT : Hid (toldL b s = Lib.itoa b.pos) := Lib.hid (by simp [toldL, h0, h1])
    have g0 : (s.toList == [119, 104, 101, 114, 101]) = false := h0
    have g1 : (s.toList == [97, 116]) = true := h1
    clear h0 h1
    go_enter Tryz.func48, Tryz.ntmps48
    go_wp2_with fail
    refine (Itoa_any b.pos (by omega) (by omega) HH0.out).mono ?_
    rintro e w2 ⟨rfl, hb2⟩
    have HB := Lib.hid (HB0.out.trans (hb2.mono HB0.out.size))
    clear hb2
    go_wp2
    go_ret
    exact ⟨by rw [HT.out]; rfl, HB.out⟩
  cases h2 : isT s wSpeed
  rotate_left
  · have HT : Hid (toldL b s = Lib.itoa b.sp) := Lib.hid (by simp [toldL, h0, h1, h2])
    have g0 : (s.toList == [119, 104, 101, 114, 101]) = false := h0
    have g1 : (s.toList == [97, 116]) = false := h1
    have g2 : (s.toList == [115, 112, 101, 101, 100]) = true := h2
    clear h0 h1 h2
    go_enter Tryz.func48, Tryz.ntmps48
    go_wp2_with fail
    refine (Itoa_any b.sp (by omega) (by omega) HH0.out).mono ?_
    rintro e w2 ⟨rfl, hb2⟩
    have HB := Lib.hid (HB0.out.trans (hb2.mono HB0.out.size))
    clear hb2
    go_wp2
    go_ret
    exact ⟨by rw [HT.out]; rfl, HB.out⟩
  cases h3 : isT s wDoor
  rotate_left
  · have HT : Hid (toldL b s = Lib.itoa b.gap) := Lib.hid (by simp [toldL, h0, h1, h2, h3])
    have g0 : (s.toList == [119, 104, 101, 114, 101]) = false := h0
    have g1 : (s.toList == [97, 116]) = false := h1
    have g2 : (s.toList == [115, 112, 101, 101, 100]) = false := h2
    have g3 : (s.toList == [100, 111, 111, 114]) = true := h3
    clear h0 h1 h2 h3
    go_enter Tryz.func48, Tryz.ntmps48
    go_wp2_with fail
    refine (Itoa_any b.gap (by omega) (by omega) HH0.out).mono ?_
    rintro e w2 ⟨rfl, hb2⟩
    have HB := Lib.hid (HB0.out.trans (hb2.mono HB0.out.size))
    clear hb2
    go_wp2
    go_ret
    exact ⟨by rw [HT.out]; rfl, HB.out⟩
  cases h4 : isT s wCalls
  rotate_left
  · have HT : Hid (toldL b s = callsT b.nu b.nd b.nc b.up b.dn b.car) := Lib.hid (by simp [toldL, h0, h1, h2, h3, h4])
    have g0 : (s.toList == [119, 104, 101, 114, 101]) = false := h0
    have g1 : (s.toList == [97, 116]) = false := h1
    have g2 : (s.toList == [115, 112, 101, 101, 100]) = false := h2
    have g3 : (s.toList == [100, 111, 111, 114]) = false := h3
    have g4 : (s.toList == [99, 97, 108, 108, 115]) = true := h4
    clear h0 h1 h2 h3 h4
    go_enter Tryz.func48, Tryz.ntmps48
    go_wp2_with fail
    refine (impl_CallsText (by omega) (by omega) (by omega) (Nat.le_trans hB (by simp)) HR0.out.u HR0.out.d HR0.out.c).mono ?_
    rintro e w2 ⟨rfl, hb2⟩
    have HB := Lib.hid (HB0.out.trans (hb2.mono HB0.out.size))
    clear hb2
    go_wp2
    go_ret
    exact ⟨by rw [HT.out]; rfl, HB.out⟩
  cases h5 : isT s wFloors
  rotate_left
  · have HT : Hid (toldL b s = textOf b.f b.n) := Lib.hid (by simp [toldL, h0, h1, h2, h3, h4, h5])
    have g0 : (s.toList == [119, 104, 101, 114, 101]) = false := h0
    have g1 : (s.toList == [97, 116]) = false := h1
    have g2 : (s.toList == [115, 112, 101, 101, 100]) = false := h2
    have g3 : (s.toList == [100, 111, 111, 114]) = false := h3
    have g4 : (s.toList == [99, 97, 108, 108, 115]) = false := h4
    have g5 : (s.toList == [102, 108, 111, 111, 114, 115]) = true := h5
    clear h0 h1 h2 h3 h4 h5
    go_enter Tryz.func48, Tryz.ntmps48
    go_wp2_with fail
    refine (impl_HeightsText (by omega) HR0.out.h).mono ?_
    rintro e w2 ⟨rfl, m2, rfl⟩
    have HB := Lib.hid (below_drewN HB0.out m2)
    go_wp2
    go_ret
    exact ⟨by rw [HT.out]; rfl, HB.out⟩
  cases h6 : isT s wQuiet
  rotate_left
  · cases hq : b.quiet
    rotate_left
    · have HT : Hid (toldL b s = rYes) := Lib.hid (by simp [toldL, h0, h1, h2, h3, h4, h5, h6, hq])
      have g0 : (s.toList == [119, 104, 101, 114, 101]) = false := h0
      have g1 : (s.toList == [97, 116]) = false := h1
      have g2 : (s.toList == [115, 112, 101, 101, 100]) = false := h2
      have g3 : (s.toList == [100, 111, 111, 114]) = false := h3
      have g4 : (s.toList == [99, 97, 108, 108, 115]) = false := h4
      have g5 : (s.toList == [102, 108, 111, 111, 114, 115]) = false := h5
      have g6 : (s.toList == [113, 117, 105, 101, 116]) = true := h6
      clear h0 h1 h2 h3 h4 h5 h6
      have HQ := Lib.hid hq
      clear hq
      go_enter Tryz.func48, Tryz.ntmps48
      go_wp2_with fail
      refine (impl_BuildQuiet hn (Nat.le_trans hB (by simp)) HR0.out).mono ?_
      rintro e w2 ⟨rfl, hb2⟩
      rw [HQ.out]
      have HB := Lib.hid (HB0.out.trans (hb2.mono HB0.out.size))
      clear hb2
      go_wp2
      go_ret
      exact ⟨by rw [HT.out]; rfl, HB.out⟩
    · have HT : Hid (toldL b s = rNo) := Lib.hid (by simp [toldL, h0, h1, h2, h3, h4, h5, h6, hq])
      have g0 : (s.toList == [119, 104, 101, 114, 101]) = false := h0
      have g1 : (s.toList == [97, 116]) = false := h1
      have g2 : (s.toList == [115, 112, 101, 101, 100]) = false := h2
      have g3 : (s.toList == [100, 111, 111, 114]) = false := h3
      have g4 : (s.toList == [99, 97, 108, 108, 115]) = false := h4
      have g5 : (s.toList == [102, 108, 111, 111, 114, 115]) = false := h5
      have g6 : (s.toList == [113, 117, 105, 101, 116]) = true := h6
      clear h0 h1 h2 h3 h4 h5 h6
      have HQ := Lib.hid hq
      clear hq
      go_enter Tryz.func48, Tryz.ntmps48
      go_wp2_with fail
      refine (impl_BuildQuiet hn (Nat.le_trans hB (by simp)) HR0.out).mono ?_
      rintro e w2 ⟨rfl, hb2⟩
      rw [HQ.out]
      have HB := Lib.hid (HB0.out.trans (hb2.mono HB0.out.size))
      clear hb2
      go_wp2
      go_ret
      exact ⟨by rw [HT.out]; rfl, HB.out⟩
  · have HT : Hid (toldL b s = rWhat) := Lib.hid (by simp [toldL, h0, h1, h2, h3, h4, h5, h6])
    have g0 : (s.toList == [119, 104, 101, 114, 101]) = false := h0
    have g1 : (s.toList == [97, 116]) = false := h1
    have g2 : (s.toList == [115, 112, 101, 101, 100]) = false := h2
    have g3 : (s.toList == [100, 111, 111, 114]) = false := h3
    have g4 : (s.toList == [99, 97, 108, 108, 115]) = false := h4
    have g5 : (s.toList == [102, 108, 111, 111, 114, 115]) = false := h5
    have g6 : (s.toList == [113, 117, 105, 101, 116]) = false := h6
    clear h0 h1 h2 h3 h4 h5 h6
    go_enter Tryz.func48, Tryz.ntmps48
    go_wp2
    go_ret
    exact ⟨by rw [HT.out]; rfl, HB0.out⟩
set_option maxRecDepth 100000 in
set_option maxHeartbeats 3200000 in
theorem spec_told {w : World} {B : Nat} {v : Bv} {b : Bld} (s : ByteArray) (hok : b.Ok) (hn : b.Small) (hB : B ≤ w.heap.size) (hr : ReadB w B v b) :
    Calls Tryz.prog 62 #[bval v b, .string s] w fun e w' => e = .returned (.string ⟨(toldL b s).toArray⟩) ∧ Below w.heap.size w w' := by
  have HX0 := Lib.hid (Bx.new w (bcells v b) 36)
  have HB0 := Lib.hid ((Below.refl w.heap.size w).alloc (Nat.le_refl _) (.cells (bcells v b) 36))
  have HR0 := Lib.hid (hr.alloc hB (.cells (bcells v b) 36))
  obtain ⟨z1, z2, z3, z4, z5⟩ := hok.sizes
  have hst := stand_range hok
  have hm := motionB_iff.1 hok.motion
  have hd := doorB_iff.1 hok.door
  obtain ⟨⟨p0, p1⟩, p2, p3⟩ := hm
  obtain ⟨⟨d0, d1⟩, -⟩ := hd
  obtain ⟨y0, y1⟩ := hst
  have hnu : b.nu ≤ 8 := by omega
  have hnd : b.nd ≤ 8 := by omega
  have hnc : b.nc ≤ 8 := by omega
  clear z1 z2 z3 z4 hr hok
  unfold bval bcells at *
  have c0 := HX0.out.cells
  cases h0 : isT s wWhere
  rotate_left
  · by_cases hs0 : b.stand < 0
    · have HT : Hid (toldL b s = rMoving) := Lib.hid (by simp [toldL, h0, hs0])
      have g0 : (s.toList == [119, 104, 101, 114, 101]) = true := h0
      clear h0
      go_enter Tryz.func62, Tryz.ntmps62
      go_wp2_with fail
      refine (l27Here_any hn (Nat.le_trans hB (by simp)) HR0.out).mono ?_
      rintro e w1 ⟨rfl, hb1⟩
      have HX1 := Lib.hid (HX0.out.below hb1 HX0.out.lt)
      have HB1 := Lib.hid (HB0.out.trans (hb1.mono HB0.out.size))
      have HR1 := Lib.hid (HR0.out.below (hb1.mono (by simp; omega)))
      have hs1 : w.heap.size + 1 ≤ w1.heap.size := by have := hb1.size; simpa using this
      clear hb1 HX0 HB0 HR0 c0
      have c0 := HX1.out.cells
      go_wp2
      go_ret
      exact ⟨by rw [HT.out]; rfl, HB1.out⟩
    · have HT : Hid (toldL b s = Lib.itoa b.stand) := Lib.hid (by simp [toldL, h0, hs0])
      have g0 : (s.toList == [119, 104, 101, 114, 101]) = true := h0
      clear h0
      go_enter Tryz.func62, Tryz.ntmps62
      go_wp2_with fail
      refine (l27Here_any hn (Nat.le_trans hB (by simp)) HR0.out).mono ?_
      rintro e w1 ⟨rfl, hb1⟩
      have HX1 := Lib.hid (HX0.out.below hb1 HX0.out.lt)
      have HB1 := Lib.hid (HB0.out.trans (hb1.mono HB0.out.size))
      have HR1 := Lib.hid (HR0.out.below (hb1.mono (by simp; omega)))
      have hs1 : w.heap.size + 1 ≤ w1.heap.size := by have := hb1.size; simpa using this
      clear hb1 HX0 HB0 HR0 c0
      have c0 := HX1.out.cells
      go_wp2_with fail
      refine (l1Number_int b.stand (by omega) (by omega) _).mono ?_
      rintro e w2 ⟨rfl, hb2⟩
      have HB := Lib.hid (HB1.out.trans (hb2.mono HB1.out.size))
      clear hb2
      go_wp2
      go_ret
      exact ⟨by rw [HT.out]; rfl, HB.out⟩
  cases h1 : isT s wAt
  rotate_left
  · have HT : Hid (toldL b s = Lib.itoa b.pos) := Lib.hid (by simp [toldL, h0, h1])
    have g0 : (s.toList == [119, 104, 101, 114, 101]) = false := h0
    have g1 : (s.toList == [97, 116]) = true := h1
    clear h0 h1
    go_enter Tryz.func62, Tryz.ntmps62
    go_wp2_with fail
    refine (l27Here_any hn (Nat.le_trans hB (by simp)) HR0.out).mono ?_
    rintro e w1 ⟨rfl, hb1⟩
    have HX1 := Lib.hid (HX0.out.below hb1 HX0.out.lt)
    have HB1 := Lib.hid (HB0.out.trans (hb1.mono HB0.out.size))
    have HR1 := Lib.hid (HR0.out.below (hb1.mono (by simp; omega)))
    have hs1 : w.heap.size + 1 ≤ w1.heap.size := by have := hb1.size; simpa using this
    clear hb1 HX0 HB0 HR0 c0
    have c0 := HX1.out.cells
    go_wp2_with fail
    refine (l1Number_int b.pos (by omega) (by omega) _).mono ?_
    rintro e w2 ⟨rfl, hb2⟩
    have HB := Lib.hid (HB1.out.trans (hb2.mono HB1.out.size))
    clear hb2
    go_wp2
    go_ret
    exact ⟨by rw [HT.out]; rfl, HB.out⟩
  cases h2 : isT s wSpeed
  rotate_left
  · have HT : Hid (toldL b s = Lib.itoa b.sp) := Lib.hid (by simp [toldL, h0, h1, h2])
    have g0 : (s.toList == [119, 104, 101, 114, 101]) = false := h0
    have g1 : (s.toList == [97, 116]) = false := h1
    have g2 : (s.toList == [115, 112, 101, 101, 100]) = true := h2
    clear h0 h1 h2
    go_enter Tryz.func62, Tryz.ntmps62
    go_wp2_with fail
    refine (l27Here_any hn (Nat.le_trans hB (by simp)) HR0.out).mono ?_
    rintro e w1 ⟨rfl, hb1⟩
    have HX1 := Lib.hid (HX0.out.below hb1 HX0.out.lt)
    have HB1 := Lib.hid (HB0.out.trans (hb1.mono HB0.out.size))
    have HR1 := Lib.hid (HR0.out.below (hb1.mono (by simp; omega)))
    have hs1 : w.heap.size + 1 ≤ w1.heap.size := by have := hb1.size; simpa using this
    clear hb1 HX0 HB0 HR0 c0
    have c0 := HX1.out.cells
    go_wp2_with fail
    refine (l1Number_int b.sp (by omega) (by omega) _).mono ?_
    rintro e w2 ⟨rfl, hb2⟩
    have HB := Lib.hid (HB1.out.trans (hb2.mono HB1.out.size))
    clear hb2
    go_wp2
    go_ret
    exact ⟨by rw [HT.out]; rfl, HB.out⟩
  cases h3 : isT s wDoor
  rotate_left
  · have HT : Hid (toldL b s = Lib.itoa b.gap) := Lib.hid (by simp [toldL, h0, h1, h2, h3])
    have g0 : (s.toList == [119, 104, 101, 114, 101]) = false := h0
    have g1 : (s.toList == [97, 116]) = false := h1
    have g2 : (s.toList == [115, 112, 101, 101, 100]) = false := h2
    have g3 : (s.toList == [100, 111, 111, 114]) = true := h3
    clear h0 h1 h2 h3
    go_enter Tryz.func62, Tryz.ntmps62
    go_wp2_with fail
    refine (l27Here_any hn (Nat.le_trans hB (by simp)) HR0.out).mono ?_
    rintro e w1 ⟨rfl, hb1⟩
    have HX1 := Lib.hid (HX0.out.below hb1 HX0.out.lt)
    have HB1 := Lib.hid (HB0.out.trans (hb1.mono HB0.out.size))
    have HR1 := Lib.hid (HR0.out.below (hb1.mono (by simp; omega)))
    have hs1 : w.heap.size + 1 ≤ w1.heap.size := by have := hb1.size; simpa using this
    clear hb1 HX0 HB0 HR0 c0
    have c0 := HX1.out.cells
    go_wp2_with fail
    refine (l1Number_int b.gap (by omega) (by omega) _).mono ?_
    rintro e w2 ⟨rfl, hb2⟩
    have HB := Lib.hid (HB1.out.trans (hb2.mono HB1.out.size))
    clear hb2
    go_wp2
    go_ret
    exact ⟨by rw [HT.out]; rfl, HB.out⟩
  cases h4 : isT s wCalls
  rotate_left
  · have HT : Hid (toldL b s = callsT b.nu b.nd b.nc b.up b.dn b.car) := Lib.hid (by simp [toldL, h0, h1, h2, h3, h4])
    have g0 : (s.toList == [119, 104, 101, 114, 101]) = false := h0
    have g1 : (s.toList == [97, 116]) = false := h1
    have g2 : (s.toList == [115, 112, 101, 101, 100]) = false := h2
    have g3 : (s.toList == [100, 111, 111, 114]) = false := h3
    have g4 : (s.toList == [99, 97, 108, 108, 115]) = true := h4
    clear h0 h1 h2 h3 h4
    go_enter Tryz.func62, Tryz.ntmps62
    go_wp2_with fail
    refine (l27Here_any hn (Nat.le_trans hB (by simp)) HR0.out).mono ?_
    rintro e w1 ⟨rfl, hb1⟩
    have HX1 := Lib.hid (HX0.out.below hb1 HX0.out.lt)
    have HB1 := Lib.hid (HB0.out.trans (hb1.mono HB0.out.size))
    have HR1 := Lib.hid (HR0.out.below (hb1.mono (by simp; omega)))
    have hs1 : w.heap.size + 1 ≤ w1.heap.size := by have := hb1.size; simpa using this
    clear hb1 HX0 HB0 HR0 c0
    have c0 := HX1.out.cells
    go_wp2_with fail
    refine (spec_CallsText (by omega) (by omega) (by omega) (Nat.le_trans hB (by omega)) HR1.out.u HR1.out.d HR1.out.c).mono ?_
    rintro e w2 ⟨rfl, hb2⟩
    have HB := Lib.hid (HB1.out.trans (hb2.mono HB1.out.size))
    clear hb2
    go_wp2
    go_ret
    exact ⟨by rw [HT.out]; rfl, HB.out⟩
  cases h5 : isT s wFloors
  rotate_left
  · have HT : Hid (toldL b s = textOf b.f b.n) := Lib.hid (by simp [toldL, h0, h1, h2, h3, h4, h5])
    have g0 : (s.toList == [119, 104, 101, 114, 101]) = false := h0
    have g1 : (s.toList == [97, 116]) = false := h1
    have g2 : (s.toList == [115, 112, 101, 101, 100]) = false := h2
    have g3 : (s.toList == [100, 111, 111, 114]) = false := h3
    have g4 : (s.toList == [99, 97, 108, 108, 115]) = false := h4
    have g5 : (s.toList == [102, 108, 111, 111, 114, 115]) = true := h5
    clear h0 h1 h2 h3 h4 h5
    go_enter Tryz.func62, Tryz.ntmps62
    go_wp2_with fail
    refine (l27Here_any hn (Nat.le_trans hB (by simp)) HR0.out).mono ?_
    rintro e w1 ⟨rfl, hb1⟩
    have HX1 := Lib.hid (HX0.out.below hb1 HX0.out.lt)
    have HB1 := Lib.hid (HB0.out.trans (hb1.mono HB0.out.size))
    have HR1 := Lib.hid (HR0.out.below (hb1.mono (by simp; omega)))
    have hs1 : w.heap.size + 1 ≤ w1.heap.size := by have := hb1.size; simpa using this
    clear hb1 HX0 HB0 HR0 c0
    have c0 := HX1.out.cells
    go_wp2_with fail
    refine (spec_HeightsText (by omega) (Nat.le_trans hB (by omega)) HR1.out.h).mono ?_
    rintro e w2 ⟨rfl, hb2⟩
    have HB := Lib.hid (HB1.out.trans (hb2.mono HB1.out.size))
    clear hb2
    go_wp2
    go_ret
    exact ⟨by rw [HT.out]; rfl, HB.out⟩
  cases h6 : isT s wQuiet
  rotate_left
  · cases hq : b.quiet
    rotate_left
    · have HT : Hid (toldL b s = rYes) := Lib.hid (by simp [toldL, h0, h1, h2, h3, h4, h5, h6, hq])
      have g0 : (s.toList == [119, 104, 101, 114, 101]) = false := h0
      have g1 : (s.toList == [97, 116]) = false := h1
      have g2 : (s.toList == [115, 112, 101, 101, 100]) = false := h2
      have g3 : (s.toList == [100, 111, 111, 114]) = false := h3
      have g4 : (s.toList == [99, 97, 108, 108, 115]) = false := h4
      have g5 : (s.toList == [102, 108, 111, 111, 114, 115]) = false := h5
      have g6 : (s.toList == [113, 117, 105, 101, 116]) = true := h6
      clear h0 h1 h2 h3 h4 h5 h6
      have HQ := Lib.hid hq
      clear hq
      go_enter Tryz.func62, Tryz.ntmps62
      go_wp2_with fail
      refine (l27Here_any hn (Nat.le_trans hB (by simp)) HR0.out).mono ?_
      rintro e w1 ⟨rfl, hb1⟩
      have HX1 := Lib.hid (HX0.out.below hb1 HX0.out.lt)
      have HB1 := Lib.hid (HB0.out.trans (hb1.mono HB0.out.size))
      have HR1 := Lib.hid (HR0.out.below (hb1.mono (by simp; omega)))
      have hs1 : w.heap.size + 1 ≤ w1.heap.size := by have := hb1.size; simpa using this
      clear hb1 HX0 HB0 HR0 c0
      have c0 := HX1.out.cells
      go_wp2_with fail
      refine (spec_BuildQuiet hn (Nat.le_trans hB (by omega)) HR1.out).mono ?_
      rintro e w2 ⟨rfl, hb2⟩
      rw [HQ.out]
      have HB := Lib.hid (HB1.out.trans (hb2.mono HB1.out.size))
      clear hb2
      go_wp2
      go_ret
      exact ⟨by rw [HT.out]; rfl, HB.out⟩
    · have HT : Hid (toldL b s = rNo) := Lib.hid (by simp [toldL, h0, h1, h2, h3, h4, h5, h6, hq])
      have g0 : (s.toList == [119, 104, 101, 114, 101]) = false := h0
      have g1 : (s.toList == [97, 116]) = false := h1
      have g2 : (s.toList == [115, 112, 101, 101, 100]) = false := h2
      have g3 : (s.toList == [100, 111, 111, 114]) = false := h3
      have g4 : (s.toList == [99, 97, 108, 108, 115]) = false := h4
      have g5 : (s.toList == [102, 108, 111, 111, 114, 115]) = false := h5
      have g6 : (s.toList == [113, 117, 105, 101, 116]) = true := h6
      clear h0 h1 h2 h3 h4 h5 h6
      have HQ := Lib.hid hq
      clear hq
      go_enter Tryz.func62, Tryz.ntmps62
      go_wp2_with fail
      refine (l27Here_any hn (Nat.le_trans hB (by simp)) HR0.out).mono ?_
      rintro e w1 ⟨rfl, hb1⟩
      have HX1 := Lib.hid (HX0.out.below hb1 HX0.out.lt)
      have HB1 := Lib.hid (HB0.out.trans (hb1.mono HB0.out.size))
      have HR1 := Lib.hid (HR0.out.below (hb1.mono (by simp; omega)))
      have hs1 : w.heap.size + 1 ≤ w1.heap.size := by have := hb1.size; simpa using this
      clear hb1 HX0 HB0 HR0 c0
      have c0 := HX1.out.cells
      go_wp2_with fail
      refine (spec_BuildQuiet hn (Nat.le_trans hB (by omega)) HR1.out).mono ?_
      rintro e w2 ⟨rfl, hb2⟩
      rw [HQ.out]
      have HB := Lib.hid (HB1.out.trans (hb2.mono HB1.out.size))
      clear hb2
      go_wp2
      go_ret
      exact ⟨by rw [HT.out]; rfl, HB.out⟩
  · have HT : Hid (toldL b s = rWhat) := Lib.hid (by simp [toldL, h0, h1, h2, h3, h4, h5, h6])
    have g0 : (s.toList == [119, 104, 101, 114, 101]) = false := h0
    have g1 : (s.toList == [97, 116]) = false := h1
    have g2 : (s.toList == [115, 112, 101, 101, 100]) = false := h2
    have g3 : (s.toList == [100, 111, 111, 114]) = false := h3
    have g4 : (s.toList == [99, 97, 108, 108, 115]) = false := h4
    have g5 : (s.toList == [102, 108, 111, 111, 114, 115]) = false := h5
    have g6 : (s.toList == [113, 117, 105, 101, 116]) = false := h6
    clear h0 h1 h2 h3 h4 h5 h6
    go_enter Tryz.func62, Tryz.ntmps62
    go_wp2_with fail
    refine (l27Here_any hn (Nat.le_trans hB (by simp)) HR0.out).mono ?_
    rintro e w1 ⟨rfl, hb1⟩
    have HX1 := Lib.hid (HX0.out.below hb1 HX0.out.lt)
    have HB1 := Lib.hid (HB0.out.trans (hb1.mono HB0.out.size))
    have HR1 := Lib.hid (HR0.out.below (hb1.mono (by simp; omega)))
    have hs1 : w.heap.size + 1 ≤ w1.heap.size := by have := hb1.size; simpa using this
    clear hb1 HX0 HB0 HR0 c0
    have c0 := HX1.out.cells
    go_wp2
    go_ret
    exact ⟨by rw [HT.out]; rfl, HB1.out⟩
end Go.Proofs.YthkpikkjgggimaaGreatDoor
