/-
  The contract of the program's BuildTick. No claim stands here.
-/
import Derived.Test.YthkpikkjgggimaaGreatDoorTick
import Derived.Deep.AppendLies
namespace Go.Proofs.YthkpikkjgggimaaGreatDoor
open Go.RowKit
set_option linter.unusedVariables false
set_option linter.unusedSimpArgs false

/-- What BuildTick answers. -/
def TickPost (b : Bld) (bl : Bool) (w : World) (e : Ending) (w' : World) : Prop :=
  ∃ v', e = .returned (bval v' (b.ticked bl)) ∧ OwnB w' w.heap.size v' (b.ticked bl) ∧ Below w.heap.size w w'
theorem ticked_no {b : Bld} {bl : Bool} (h : b.valid = false) : b.ticked bl = Bld.none := by simp [Bld.ticked, h]
theorem ticked_yes {b : Bld} {bl : Bool} (h : b.valid = true) : b.ticked bl = b.tick bl := by simp [Bld.ticked, h]

set_option maxHeartbeats 6400000 in
theorem impl_BuildTick_no {w : World} {B : Nat} {v : Bv} {b : Bld} (bl : Bool) (hn : b.Small) (hB : B ≤ w.heap.size) (hr : ReadB w B v b) (hv : b.valid = false) :
    Calls Tryz.prog 43 #[bval v b, .bool bl] w (TickPost b bl w) := by
  have HR := Lib.hid hr
  have HSm := Lib.hid hn
  have HV := Lib.hid hv
  have HE := Lib.hid (ticked_no (bl := bl) hv)
  obtain ⟨m0, m1, m2, m3⟩ := hn
  clear hr hv
  unfold bval bcells TickPost
  go_enter Tryz.func43, Tryz.ntmps43
  go_wp2_with fail
  refine (impl_BuildValid (v := v) (b := b) HSm.out (Nat.le_trans hB (by simp <;> omega)) ((HR.out.alloc hB _).alloc (Nat.le_trans hB (by simp <;> omega)) _)).mono ?_
  rintro e w1 ⟨rfl, hb1⟩
  obtain ⟨x, y, hbb, hs1⟩ := boxes2' hb1
  have HB1 := Lib.hid hbb
  have c1 := y.cells
  have z1 := y.free
  clear hb1 x y hbb
  rw [HV.out]
  go_wp2
  refine bodyPost_ret (v := bval Bv.none Bld.none) (by simp [bval, bcells, Bv.none, Bld.none, results, Tryz.results43, go_sem, c1]) rfl ⟨Bv.none, by rw [HE.out], ?_, ?_⟩
  · rw [HE.out]
    exact own_none _ _
  · repeat (refine below_set (by simp <;> omega) ?_)
    exact HB1.out
set_option maxHeartbeats 6400000 in
theorem spec_BuildTick_no {w : World} {B : Nat} {v : Bv} {b : Bld} (bl : Bool) (hn : b.Small) (hB : B ≤ w.heap.size) (hr : ReadB w B v b) (hv : b.valid = false) :
    Calls Tryz.prog 56 #[bval v b, .bool bl] w (TickPost b bl w) := by
  have HR := Lib.hid hr
  have HSm := Lib.hid hn
  have HV := Lib.hid hv
  have HE := Lib.hid (ticked_no (bl := bl) hv)
  obtain ⟨m0, m1, m2, m3⟩ := hn
  clear hr hv
  unfold bval bcells TickPost
  go_enter Tryz.func56, Tryz.ntmps56
  go_wp2_with fail
  refine (spec_BuildValid (v := v) (b := b) HSm.out (Nat.le_trans hB (by simp <;> omega)) ((HR.out.alloc hB _).alloc (Nat.le_trans hB (by simp <;> omega)) _)).mono ?_
  rintro e w1 ⟨rfl, hb1⟩
  obtain ⟨x, y, hbb, hs1⟩ := boxes2' hb1
  have HB1 := Lib.hid hbb
  have c1 := y.cells
  have z1 := y.free
  clear hb1 x y hbb
  rw [HV.out]
  go_wp2
  refine bodyPost_ret (v := bval Bv.none Bld.none) (by simp [bval, bcells, Bv.none, Bld.none, results, Tryz.results56, go_sem, c1]) rfl ⟨Bv.none, by rw [HE.out], ?_, ?_⟩
  · rw [HE.out]
    exact own_none _ _
  · repeat (refine below_set (by simp <;> omega) ?_)
    exact HB1.out

theorem own_with {W : World} {base n nu nd nc : Nat} {v : Bv} {f : Nat → Int} {pos sp gap hold fl0 dir : Int} {up dn car : Nat → Bool} {op : Bool} (h : OwnB W base v ⟨n, f, pos, sp, gap, hold, nu, up, nd, dn, nc, car, fl0, dir, op⟩) (fl1 dir1 pos1 sp1 gap1 hold1 : Int) (op1 : Bool) :
    OwnB W base v ⟨n, f, pos1, sp1, gap1, hold1, nu, up, nd, dn, nc, car, fl1, dir1, op1⟩ := ⟨h.h, h.k, h.hu, h.hd, h.hc⟩
theorem OwnB.drew {w : World} {base : Nat} {v : Bv} {b : Bld} (o : OwnB w base v b) : OwnB w.drew base v b := o.below (Below.refl w.heap.size w).drew (Nat.le_refl _)
theorem open_op1 {op : Bool} {g : Int} (h : (g == 4) = false) (hg : g ≤ 4) : (op && decide (g < 4)) = op := by
  simp at h
  have : g < 4 := by omega
  simp [this]
theorem open_op2 {op : Bool} {g : Int} (h : (g == 4) = true) : (op && decide (g < 4)) = false := by
  simp at h
  simp [h]
theorem ownB_below {w w' : World} {base : Nat} {v : Bv} {b : Bld} (o : OwnB w base v b) (hb : Below w.heap.size w w') : OwnB w' base v b := o.below hb (Nat.le_refl _)

set_option maxHeartbeats 12800000 in
theorem impl_BuildTick_yes {w : World} {B : Nat} {v : Bv} {n : Nat} {f : Nat → Int} {pos sp gap hold fl0 dir : Int} {up dn car : Nat → Bool} {op : Bool} (bl : Bool) (hB : B ≤ w.heap.size)
    (hr : ReadB w B v ⟨n, f, pos, sp, gap, hold, n, up, n, dn, n, car, fl0, dir, op⟩) (hv : Bld.valid ⟨n, f, pos, sp, gap, hold, n, up, n, dn, n, car, fl0, dir, op⟩ = true) :
    Calls Tryz.prog 43 #[bval v ⟨n, f, pos, sp, gap, hold, n, up, n, dn, n, car, fl0, dir, op⟩, .bool bl] w (TickPost ⟨n, f, pos, sp, gap, hold, n, up, n, dn, n, car, fl0, dir, op⟩ bl w) := by
  have hok := valid_iff.1 hv
  obtain ⟨_, _, _, hn1, hn8⟩ := hok.sizes
  simp only at hn1 hn8
  have HOK := Lib.hid hok
  have HC := Lib.hid (show callsB n n n up dn = true from hok.calls)
  have HDOOR := Lib.hid (show doorB gap hold = true from hok.door)
  have HMOT := Lib.hid (show motionB pos sp = true from hok.motion)
  have HWAY := Lib.hid (show dir = 1 ∨ dir = -1 from hok.way)
  have HFL := Lib.hid (show floorsB f n = true from hok.floors)
  have HHALT := Lib.hid (show (fl0 = -1 ∧ 0 ≤ standF f n pos sp) ∨ ((0 ≤ fl0 ∧ fl0 < n) ∧ gap = 0 ∧ op = false) from hok.halt)
  have HR := Lib.hid hr
  have HV := Lib.hid hv
  have HE := Lib.hid (ticked_yes (bl := bl) hv)
  clear hr hv hok
  unfold TickPost
  rw [HE.out]
  unfold bval bcells
  go_enter Tryz.func43, Tryz.ntmps43
  go_wp2_with fail
  refine (impl_BuildValid (v := v) (b := ⟨n, f, pos, sp, gap, hold, n, up, n, dn, n, car, fl0, dir, op⟩) ⟨by simp; omega, by simp; omega, by simp; omega, by simp; omega⟩ (Nat.le_trans hB (by simp <;> omega)) ((HR.out.alloc hB _).alloc (Nat.le_trans hB (by simp <;> omega)) _)).mono ?_
  rintro e w1 ⟨rfl, hb1⟩
  obtain ⟨x, y, hbb, hs1⟩ := boxes2' hb1
  have HX1 := Lib.hid x
  have HY1 := Lib.hid y
  have HB1 := Lib.hid hbb
  have c0 := x.cells
  clear hb1 x y hbb
  rw [HV.out]
  go_wp2_with fail
  refine (copyBuilding_any (v := v) (b := ⟨n, f, pos, sp, gap, hold, n, up, n, dn, n, car, fl0, dir, op⟩) (by simp; omega) (by simp; omega) (by simp; omega) (by simp; omega) (by simp; omega) (Nat.le_trans hB HB1.out.size) (HR.out.below (HB1.out.mono hB))).mono ?_
  rintro e w2 ⟨⟨A2, cA2, U2, cu2, D2, cd2, C2, cc2⟩, rfl, ho2, hb2⟩
  have x2 := HX1.out.below hb2 HX1.out.lt
  have z0 := x2.free
  have c2 := x2.cells
  have F2 := store_building ⟨A2, cA2, U2, cu2, D2, cd2, C2, cc2⟩ ⟨n, f, pos, sp, gap, hold, n, up, n, dn, n, car, fl0, dir, op⟩ x2 (HY1.out.below hb2 HY1.out.lt) (by omega) (HB1.out.trans (hb2.mono HB1.out.size)) (Nat.le_refl _) (ho2.mono (base' := w.heap.size + 2) hs1) (by omega) (Nat.le_trans hs1 hb2.size)
  clear hb2 ho2 x2 c0 HX1 HY1 HB1
  obtain ⟨W3, hW, x3, y3, hb3, ho3, hs3⟩ := F2
  have HX3 := Lib.hid x3
  have HY3 := Lib.hid y3
  have HB3 := Lib.hid hb3
  have HO3 := Lib.hid ho3
  have HW := Lib.hid hW
  clear x3 y3 hb3 ho3 hW
  simp only [bval, bcells]
  go_wp2_with fail
  refine calls_at HW.out ?_
  refine (standingFloor_any (n := n) (f := f) pos sp (by omega) (Nat.le_refl _) HO3.out.read.h).mono ?_
  rintro e w4 ⟨rfl, hb4⟩
  have HX4 := Lib.hid (HX3.out.below hb4 HX3.out.lt)
  have HY4 := Lib.hid (HY3.out.below hb4 HY3.out.lt)
  have HB4 := Lib.hid (HB3.out.trans (hb4.mono HB3.out.size))
  have HO4 := Lib.hid (ownB_below HO3.out hb4)
  have hs4 : w.heap.size + 2 ≤ w4.heap.size := Nat.le_trans hs3 hb4.size
  clear hb4 HX3 HY3 HB3 HO3 HW z0 c2
  unfold bcells at HX4
  simp only at HX4
  have hst := stand_bd (f := f) (n := n) (pos := pos) (sp := sp) hn1
  have HST : Hid (Bld.stand ⟨n, f, pos, sp, gap, hold, n, up, n, dn, n, car, fl0, dir, op⟩ = standF f n pos sp) := Lib.hid rfl
  generalize standF f n pos sp = st at *
  obtain ⟨hst1, hst2⟩ := hst
  have c0 := HX4.out.cells
  have z0 := HX4.out.free
  have c1 := HY4.out.cells
  have z1 := HY4.out.free
  by_cases hg : 0 < gap
  · have hgo : 0 < gap ∨ op = true := .inl hg
    have HT : Hid (Bld.tick ⟨n, f, pos, sp, gap, hold, n, up, n, dn, n, car, fl0, dir, op⟩ bl = Bld.open ⟨n, f, pos, sp, gap, hold, n, up, n, dn, n, car, fl0, dir, op⟩ bl) := Lib.hid (tick_open hgo)
    go_wp2_with fail
    refine (impl_DoorStep op bl HDOOR.out _).mono ?_
    rintro e w5 ⟨rfl, hb5⟩
    have hdv := doorB_iff.1 (doorStep_valid (ask := op) (bl := bl) HDOOR.out)
    have HOP : Hid (Bld.open ⟨n, f, pos, sp, gap, hold, n, up, n, dn, n, car, fl0, dir, op⟩ bl = ⟨n, f, pos, sp, doorG gap hold op bl, doorH gap hold op bl, n, up, n, dn, n, car, fl0, dir, op && decide (doorG gap hold op bl < 4)⟩) := Lib.hid rfl
    generalize doorG gap hold op bl = g' at *
    generalize doorH gap hold op bl = h' at *
    obtain ⟨⟨hg1, hg2⟩, hh, _⟩ := hdv
    have HX5 := Lib.hid (HX4.out.below hb5 HX4.out.lt)
    have HY5 := Lib.hid (HY4.out.below hb5 HY4.out.lt)
    have HB5 := Lib.hid (HB4.out.trans (hb5.mono HB4.out.size))
    have HO5 := Lib.hid (ownB_below HO4.out hb5)
    clear hb5 c0 z0 c1 z1 HX4 HY4 HB4 HO4 hgo
    have c0 := HX5.out.cells
    have z0 := HX5.out.free
    have c1 := HY5.out.cells
    have z1 := HY5.out.free
    cases hq : (g' == 4)
    · have HOQ : Hid ((op && decide (g' < 4)) = op) := Lib.hid (open_op1 hq hg2)
      have HRR : Hid (Bld.tick ⟨n, f, pos, sp, gap, hold, n, up, n, dn, n, car, fl0, dir, op⟩ bl = ⟨n, f, pos, sp, g', h', n, up, n, dn, n, car, fl0, dir, op⟩) := Lib.hid (by rw [HT.out, HOP.out, HOQ.out])
      go_wp2
      refine bodyPost_ret (v := bval ⟨A2, cA2, U2, cu2, D2, cd2, C2, cc2⟩ ⟨n, f, pos, sp, g', h', n, up, n, dn, n, car, fl0, dir, op⟩) (by simp [bval, bcells, results, Tryz.results43, go_sem, c0, c1]) rfl ⟨⟨A2, cA2, U2, cu2, D2, cd2, C2, cc2⟩, by rw [HRR.out]; rfl, ?_, ?_⟩
      · rw [HRR.out]
        refine OwnB.mono (base := w.heap.size + 2) ?_ (by omega)
        repeat (refine ownB_set (by simp <;> omega) ?_)
        exact own_with HO5.out _ _ _ _ _ _ _
      · repeat (refine below_set (by simp <;> omega) ?_)
        exact HB5.out
    · have HOQ : Hid ((op && decide (g' < 4)) = false) := Lib.hid (open_op2 hq)
      have HRR : Hid (Bld.tick ⟨n, f, pos, sp, gap, hold, n, up, n, dn, n, car, fl0, dir, op⟩ bl = ⟨n, f, pos, sp, g', h', n, up, n, dn, n, car, fl0, dir, false⟩) := Lib.hid (by rw [HT.out, HOP.out, HOQ.out])
      go_wp2
      refine bodyPost_ret (v := bval ⟨A2, cA2, U2, cu2, D2, cd2, C2, cc2⟩ ⟨n, f, pos, sp, g', h', n, up, n, dn, n, car, fl0, dir, false⟩) (by simp [bval, bcells, results, Tryz.results43, go_sem, c0, c1]) rfl ⟨⟨A2, cA2, U2, cu2, D2, cd2, C2, cc2⟩, by rw [HRR.out]; rfl, ?_, ?_⟩
      · rw [HRR.out]
        refine OwnB.mono (base := w.heap.size + 2) ?_ (by omega)
        repeat (refine ownB_set (by simp <;> omega) ?_)
        exact own_with HO5.out _ _ _ _ _ _ _
      · repeat (refine below_set (by simp <;> omega) ?_)
        exact HB5.out
  cases op
  · have hgn : Hid (¬ (0 < gap ∨ false = true)) := Lib.hid (by simp; omega)
    by_cases h1 : 0 ≤ fl0
    · by_cases h2 : st = fl0
      · obtain ⟨k, rfl⟩ : ∃ k : Nat, fl0 = (k : Int) := ⟨fl0.toNat, by omega⟩
        have hk : (k : Int) < n := by have := HHALT.out; omega
        have hq : (st == (k : Int)) = true := by simp [h2]
        have HT : Hid (Bld.tick ⟨n, f, pos, sp, gap, hold, n, up, n, dn, n, car, (k : Int), dir, false⟩ bl = Bld.serve ⟨n, f, pos, sp, gap, hold, n, up, n, dn, n, car, (k : Int), dir, false⟩) := Lib.hid (tick_serve hgn.out h1 (by rw [HST.out]; exact h2))
        have HSV : Hid (Bld.serve ⟨n, f, pos, sp, gap, hold, n, up, n, dn, n, car, (k : Int), dir, false⟩ = ⟨n, f, pos, sp, gap, hold, n, serveUp up k dir, n, serveDn dn k dir, n, serveCar car k, -1, dir, true⟩) := Lib.hid rfl
        have HRR := Lib.hid (HT.out.trans HSV.out)
        clear h2
        go_wp2_with fail
        refine (impl_ServeStop HC.out h1 hk HWAY.out (Nat.le_refl _) HO4.out.read.u HO4.out.read.d HO4.out.read.c).mono ?_
        unfold ServePost
        rintro e w5 ⟨U5, cu5, D5, cd5, C5, cc5, rfl, hk5, hb5⟩
        have HX5 := Lib.hid (HX4.out.below hb5 HX4.out.lt)
        have HY5 := Lib.hid (HY4.out.below hb5 HY4.out.lt)
        have HB5 := Lib.hid (HB4.out.trans (hb5.mono HB4.out.size))
        have HO5 := Lib.hid (own_called HO4.out hb5 hk5 hs4 (-1) dir pos sp gap hold true)
        clear hb5 hk5 c0 z0 c1 z1 HX4 HY4 HB4 HO4
        have c0 := HX5.out.cells
        have z0 := HX5.out.free
        have c1 := HY5.out.cells
        have z1 := HY5.out.free
        go_wp2
        refine bodyPost_ret (v := bval ⟨A2, cA2, U5, cu5, D5, cd5, C5, cc5⟩ ⟨n, f, pos, sp, gap, hold, n, serveUp up k dir, n, serveDn dn k dir, n, serveCar car k, -1, dir, true⟩) (by simp [bval, bcells, results, Tryz.results43, go_sem, c0, c1]) rfl ⟨⟨A2, cA2, U5, cu5, D5, cd5, C5, cc5⟩, by rw [HRR.out]; rfl, ?_, ?_⟩
        · rw [HRR.out]
          refine OwnB.mono (base := w.heap.size + 2) ?_ (by omega)
          repeat (refine ownB_set (by simp <;> omega) ?_)
          exact HO5.out
        · repeat (refine below_set (by simp <;> omega) ?_)
          exact HB5.out
      · obtain ⟨k, rfl⟩ : ∃ k : Nat, fl0 = (k : Int) := ⟨fl0.toNat, by omega⟩
        have hk : (k : Int) < n := by have := HHALT.out; omega
        have hkn : k < n := by omega
        have hq : (st == (k : Int)) = false := by simp [h2]
        have HT : Hid (Bld.tick ⟨n, f, pos, sp, gap, hold, n, up, n, dn, n, car, (k : Int), dir, false⟩ bl = Bld.move ⟨n, f, pos, sp, gap, hold, n, up, n, dn, n, car, (k : Int), dir, false⟩) := Lib.hid (tick_move hgn.out h1 (by rw [HST.out]; exact h2))
        have HSV : Hid (Bld.move ⟨n, f, pos, sp, gap, hold, n, up, n, dn, n, car, (k : Int), dir, false⟩ = ⟨n, f, stepAt pos sp (f k), stepSp pos sp (f k), gap, hold, n, up, n, dn, n, car, k, dir, false⟩) := Lib.hid (by simp [Bld.move])
        have HRR := Lib.hid (HT.out.trans HSV.out)
        clear h2
        obtain ⟨bA, oA, rfl, _, g4⟩ := HO4.out.read.h (by simp only; omega)
        have r4 := g4 k hkn
        clear g4
        have HMS := Lib.hid (impl_MotionStep HMOT.out (height_in HFL.out hkn))
        generalize stepAt pos sp (f k) = p' at *
        generalize stepSp pos sp (f k) = s' at *
        go_wp2_with fail
        go_region_law ((go_simp; go_at_call 95; (with_reducible refine (HMS.out _).mono ?_); rintro e w5 ⟨rfl, hb5⟩; have HX5 := Lib.hid (HX4.out.below (w := w4.drew) hb5 HX4.out.lt); have HY5 := Lib.hid (HY4.out.below (w := w4.drew) hb5 HY4.out.lt); have HB5 := Lib.hid (HB4.out.drew.trans (hb5.mono HB4.out.size)); have HO5 := Lib.hid (ownB_below HO4.out.drew hb5); have c5 := HX5.out.cells; have z5 := HX5.out.free; have c6 := HY5.out.cells; have z6 := HY5.out.free))
        all_goals go_wp2
        all_goals
          refine bodyPost_ret (v := bval ⟨some ⟨bA, oA, none⟩, cA2, U2, cu2, D2, cd2, C2, cc2⟩ ⟨n, f, p', s', gap, hold, n, up, n, dn, n, car, k, dir, false⟩) (by simp [bval, bcells, results, Tryz.results43, go_sem, c5, c6]) rfl ⟨⟨some ⟨bA, oA, none⟩, cA2, U2, cu2, D2, cd2, C2, cc2⟩, by rw [HRR.out]; rfl, ?_, ?_⟩
          · rw [HRR.out]
            refine OwnB.mono (base := w.heap.size + 2) ?_ (by omega)
            repeat (refine ownB_set (by simp <;> omega) ?_)
            exact own_with HO5.out _ _ _ _ _ _ _
          · repeat (refine below_set (by simp <;> omega) ?_)
            exact HB5.out
    · have hst0 : 0 ≤ st := by have := HHALT.out; omega
      have HT : Hid (Bld.tick ⟨n, f, pos, sp, gap, hold, n, up, n, dn, n, car, fl0, dir, false⟩ bl = Bld.look ⟨n, f, pos, sp, gap, hold, n, up, n, dn, n, car, fl0, dir, false⟩) := Lib.hid (tick_look hgn.out h1)
      have HLK : Hid (Bld.look ⟨n, f, pos, sp, gap, hold, n, up, n, dn, n, car, fl0, dir, false⟩ = if 0 ≤ nextFl n up dn car st dir then ⟨n, f, pos, sp, gap, hold, n, up, n, dn, n, car, nextFl n up dn car st dir, nextDir n up dn car st dir, false⟩ else ⟨n, f, pos, sp, gap, hold, n, up, n, dn, n, car, fl0, dir, false⟩) := Lib.hid (by unfold Bld.look Bld.nextF Bld.nextD; rw [HST.out])
      go_wp2_with fail
      refine (impl_NextStop (up := up) (dn := dn) (car := car) HC.out hst0 hst2 HWAY.out (Nat.le_refl _) HO4.out.read.u HO4.out.read.d HO4.out.read.c).mono ?_
      unfold NextPost
      rintro e w5 ⟨rfl, hb5⟩
      generalize nextFl n up dn car st dir = nf at *
      generalize nextDir n up dn car st dir = nd at *
      have HX5 := Lib.hid ((HX4.out.below hb5 HX4.out.lt).alloc (.cells #[.int .i64 nf, .int .i64 nd] 34))
      have HY5 := Lib.hid ((HY4.out.below hb5 HY4.out.lt).alloc (.cells #[.int .i64 nf, .int .i64 nd] 34))
      have HZ5 := Lib.hid (Bx.new w5 #[.int .i64 nf, .int .i64 nd] 34)
      have HB5 := Lib.hid ((HB4.out.trans (hb5.mono HB4.out.size)).alloc (Nat.le_trans HB4.out.size hb5.size) (.cells #[.int .i64 nf, .int .i64 nd] 34))
      have HO5 := Lib.hid (ownB_below (ownB_below HO4.out hb5) ((Below.refl w5.heap.size w5).alloc (Nat.le_refl _) (.cells #[.int .i64 nf, .int .i64 nd] 34)))
      clear hb5 c0 z0 c1 z1 HX4 HY4 HB4 HO4
      have c0 := HX5.out.cells
      have z0 := HX5.out.free
      have c1 := HY5.out.cells
      have z1 := HY5.out.free
      have c2 := HZ5.out.cells
      by_cases hnf : 0 ≤ nf
      · have HRR : Hid (Bld.tick ⟨n, f, pos, sp, gap, hold, n, up, n, dn, n, car, fl0, dir, false⟩ bl = ⟨n, f, pos, sp, gap, hold, n, up, n, dn, n, car, nf, nd, false⟩) := Lib.hid (by rw [HT.out, HLK.out, if_pos hnf])
        go_wp2
        refine bodyPost_ret (v := bval ⟨A2, cA2, U2, cu2, D2, cd2, C2, cc2⟩ ⟨n, f, pos, sp, gap, hold, n, up, n, dn, n, car, nf, nd, false⟩) (by simp [bval, bcells, results, Tryz.results43, go_sem, c0, c1]) rfl ⟨⟨A2, cA2, U2, cu2, D2, cd2, C2, cc2⟩, by rw [HRR.out]; rfl, ?_, ?_⟩
        · rw [HRR.out]
          refine OwnB.mono (base := w.heap.size + 2) ?_ (by omega)
          repeat (refine ownB_set (by simp <;> omega) ?_)
          exact own_with HO5.out _ _ _ _ _ _ _
        · repeat (refine below_set (by simp <;> omega) ?_)
          exact HB5.out
      · have HRR : Hid (Bld.tick ⟨n, f, pos, sp, gap, hold, n, up, n, dn, n, car, fl0, dir, false⟩ bl = ⟨n, f, pos, sp, gap, hold, n, up, n, dn, n, car, fl0, dir, false⟩) := Lib.hid (by rw [HT.out, HLK.out, if_neg hnf])
        go_wp2
        refine bodyPost_ret (v := bval ⟨A2, cA2, U2, cu2, D2, cd2, C2, cc2⟩ ⟨n, f, pos, sp, gap, hold, n, up, n, dn, n, car, fl0, dir, false⟩) (by simp [bval, bcells, results, Tryz.results43, go_sem, c0, c1]) rfl ⟨⟨A2, cA2, U2, cu2, D2, cd2, C2, cc2⟩, by rw [HRR.out]; rfl, ?_, ?_⟩
        · rw [HRR.out]
          refine OwnB.mono (base := w.heap.size + 2) ?_ (by omega)
          repeat (refine ownB_set (by simp <;> omega) ?_)
          exact HO5.out
        · repeat (refine below_set (by simp <;> omega) ?_)
          exact HB5.out
  · have hgo : 0 < gap ∨ true = true := .inr rfl
    have HT : Hid (Bld.tick ⟨n, f, pos, sp, gap, hold, n, up, n, dn, n, car, fl0, dir, true⟩ bl = Bld.open ⟨n, f, pos, sp, gap, hold, n, up, n, dn, n, car, fl0, dir, true⟩ bl) := Lib.hid (tick_open hgo)
    go_wp2_with fail
    refine (impl_DoorStep true bl HDOOR.out _).mono ?_
    rintro e w5 ⟨rfl, hb5⟩
    have hdv := doorB_iff.1 (doorStep_valid (ask := true) (bl := bl) HDOOR.out)
    have HOP : Hid (Bld.open ⟨n, f, pos, sp, gap, hold, n, up, n, dn, n, car, fl0, dir, true⟩ bl = ⟨n, f, pos, sp, doorG gap hold true bl, doorH gap hold true bl, n, up, n, dn, n, car, fl0, dir, true && decide (doorG gap hold true bl < 4)⟩) := Lib.hid rfl
    generalize doorG gap hold true bl = g' at *
    generalize doorH gap hold true bl = h' at *
    obtain ⟨⟨hg1, hg2⟩, hh, _⟩ := hdv
    have HX5 := Lib.hid (HX4.out.below hb5 HX4.out.lt)
    have HY5 := Lib.hid (HY4.out.below hb5 HY4.out.lt)
    have HB5 := Lib.hid (HB4.out.trans (hb5.mono HB4.out.size))
    have HO5 := Lib.hid (ownB_below HO4.out hb5)
    clear hb5 c0 z0 c1 z1 HX4 HY4 HB4 HO4 hgo
    have c0 := HX5.out.cells
    have z0 := HX5.out.free
    have c1 := HY5.out.cells
    have z1 := HY5.out.free
    cases hq : (g' == 4)
    · have HOQ : Hid ((true && decide (g' < 4)) = true) := Lib.hid (open_op1 hq hg2)
      have HRR : Hid (Bld.tick ⟨n, f, pos, sp, gap, hold, n, up, n, dn, n, car, fl0, dir, true⟩ bl = ⟨n, f, pos, sp, g', h', n, up, n, dn, n, car, fl0, dir, true⟩) := Lib.hid (by rw [HT.out, HOP.out, HOQ.out])
      go_wp2
      refine bodyPost_ret (v := bval ⟨A2, cA2, U2, cu2, D2, cd2, C2, cc2⟩ ⟨n, f, pos, sp, g', h', n, up, n, dn, n, car, fl0, dir, true⟩) (by simp [bval, bcells, results, Tryz.results43, go_sem, c0, c1]) rfl ⟨⟨A2, cA2, U2, cu2, D2, cd2, C2, cc2⟩, by rw [HRR.out]; rfl, ?_, ?_⟩
      · rw [HRR.out]
        refine OwnB.mono (base := w.heap.size + 2) ?_ (by omega)
        repeat (refine ownB_set (by simp <;> omega) ?_)
        exact own_with HO5.out _ _ _ _ _ _ _
      · repeat (refine below_set (by simp <;> omega) ?_)
        exact HB5.out
    · have HOQ : Hid ((true && decide (g' < 4)) = false) := Lib.hid (open_op2 hq)
      have HRR : Hid (Bld.tick ⟨n, f, pos, sp, gap, hold, n, up, n, dn, n, car, fl0, dir, true⟩ bl = ⟨n, f, pos, sp, g', h', n, up, n, dn, n, car, fl0, dir, false⟩) := Lib.hid (by rw [HT.out, HOP.out, HOQ.out])
      go_wp2
      refine bodyPost_ret (v := bval ⟨A2, cA2, U2, cu2, D2, cd2, C2, cc2⟩ ⟨n, f, pos, sp, g', h', n, up, n, dn, n, car, fl0, dir, false⟩) (by simp [bval, bcells, results, Tryz.results43, go_sem, c0, c1]) rfl ⟨⟨A2, cA2, U2, cu2, D2, cd2, C2, cc2⟩, by rw [HRR.out]; rfl, ?_, ?_⟩
      · rw [HRR.out]
        refine OwnB.mono (base := w.heap.size + 2) ?_ (by omega)
        repeat (refine ownB_set (by simp <;> omega) ?_)
        exact own_with HO5.out _ _ _ _ _ _ _
      · repeat (refine below_set (by simp <;> omega) ?_)
        exact HB5.out
end Go.Proofs.YthkpikkjgggimaaGreatDoor
