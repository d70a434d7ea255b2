/-
  Texts Valid, Valid2, Valid3, Valid4 in one. No claim stands here.
-/
import Derived.Test.YthkpikkjgggimaaGreatDoorBC
namespace Go.Proofs.YthkpikkjgggimaaGreatDoor
open Go.RowKit
set_option linter.unusedVariables false
set_option linter.unusedSimpArgs false

theorem calls_no {nu nd nc : Nat} {up dn : Nat → Bool} (h : ¬ (1 ≤ nu ∧ nu ≤ 8 ∧ nd = nu ∧ nc = nu)) : callsB nu nd nc up dn = false := by
  rw [Bool.eq_false_iff]; intro h'
  obtain ⟨a, b, c, d, _⟩ := callsB_iff.1 h'
  exact h ⟨a, b, c, d⟩
theorem calls_end {nu : Nat} {up dn : Nat → Bool} (h1 : 1 ≤ nu) (h2 : nu ≤ 8) : callsB nu nu nu up dn = (!(up (nu - 1)) && !(dn 0)) := by simp [callsB, h1, h2]

set_option maxHeartbeats 1600000 in
theorem impl_CallsValid {w : World} {B : Nat} {U D C : Option Addr} {nu cu nd cd nc cc : Nat} {up dn : Nat → Bool} (n1 : nu ≤ 9223372036854775806) (n2 : nd ≤ 9223372036854775806) (n3 : nc ≤ 9223372036854775806) (hB : B ≤ w.heap.size)
    (hu : Bools w B U nu up) (hd : Bools w B D nd dn) :
    Calls Tryz.prog 77 #[.agg #[.slice U nu cu, .slice D nd cd, .slice C nc cc]] w fun e w' => e = .returned (.bool (callsB nu nd nc up dn)) ∧ Below w.heap.size w w' := by
  have HB := Lib.hid ((Below.refl w.heap.size w).alloc (Nat.le_refl _) (.cells #[.slice U nu cu, .slice D nd cd, .slice C nc cc] 32))
  have hu1 := hu.alloc hB (.cells #[.slice U nu cu, .slice D nd cd, .slice C nc cc] 32)
  have hd1 := hd.alloc hB (.cells #[.slice U nu cu, .slice D nd cd, .slice C nc cc] 32)
  clear hu hd
  by_cases h1 : 1 ≤ nu
  · by_cases h2 : nu ≤ 8
    · have k0 : ¬ ((nu : Int) < 1) := by omega
      have k1 : ¬ (8 < (nu : Int)) := by omega
      by_cases h3 : nd = nu
      · subst h3
        have e3 : ((nd : Int) != (nd : Int)) = false := by simp
        by_cases h4 : nc = nd
        · subst h4
          obtain ⟨b, off, rfl, _, hc⟩ := hu1 (by omega)
          obtain ⟨b', off', rfl, _, hc'⟩ := hd1 (by omega)
          have c0 := hc (nc - 1) (by omega)
          have c1 : (w.alloc (.cells #[.slice (some ⟨b, off, none⟩) nc cu, .slice (some ⟨b', off', none⟩) nc cd, .slice C nc cc] 32)).cell? ⟨b', off', none⟩ = some (.bool (dn 0)) := hc' 0 (by omega)
          have HN := Lib.hid (calls_end (up := up) (dn := dn) h1 h2)
          obtain ⟨m, rfl⟩ : ∃ m, nc = m + 1 := ⟨nc - 1, by omega⟩
          rw [Nat.add_sub_cancel] at c0
          rw [Nat.add_sub_cancel] at HN
          have q6 : IntKind.i64.wrap ((m : Int) + 1 - 1) = (m : Int) := by rw [show (m : Int) + 1 - 1 = (m : Int) by omega]; exact IntWalk.i64_in _ (by omega)
          clear hc hc'
          cases hup : up m
          · go_enter Tryz.func77, Tryz.ntmps77
            go_wp2
            go_ret
            exact ⟨ret_bool (by rw [HN.out, hup]; simp), HB.out⟩
          · go_enter Tryz.func77, Tryz.ntmps77
            go_wp2
            go_ret
            exact ⟨ret_bool (by rw [HN.out, hup]; simp), HB.out⟩
        · have e4 : ((nc : Int) != (nd : Int)) = true := by simp; omega
          have HN := Lib.hid (calls_no (nu := nd) (nd := nd) (nc := nc) (up := up) (dn := dn) (fun h => h4 h.2.2.2))
          clear h4
          go_enter Tryz.func77, Tryz.ntmps77
          go_wp2
          go_ret
          exact ⟨ret_bool HN.out.symm, HB.out⟩
      · have e3 : ((nd : Int) != (nu : Int)) = true := by simp; omega
        have HN := Lib.hid (calls_no (nu := nu) (nd := nd) (nc := nc) (up := up) (dn := dn) (fun h => h3 h.2.2.1))
        clear h3
        go_enter Tryz.func77, Tryz.ntmps77
        go_wp2
        go_ret
        exact ⟨ret_bool HN.out.symm, HB.out⟩
    · have k0 : ¬ ((nu : Int) < 1) := by omega
      have k1 : 8 < (nu : Int) := by omega
      have HN := Lib.hid (calls_no (nu := nu) (nd := nd) (nc := nc) (up := up) (dn := dn) (fun h => h2 h.2.1))
      clear h2
      go_enter Tryz.func77, Tryz.ntmps77
      go_wp2
      go_ret
      exact ⟨ret_bool HN.out.symm, HB.out⟩
  · have k0 : (nu : Int) < 1 := by omega
    have HN := Lib.hid (calls_no (nu := nu) (nd := nd) (nc := nc) (up := up) (dn := dn) (fun h => h1 h.1))
    clear h1
    go_enter Tryz.func77, Tryz.ntmps77
    go_wp2
    go_ret
    exact ⟨ret_bool HN.out.symm, HB.out⟩

set_option maxHeartbeats 1600000 in
theorem spec_CallsValid {w : World} {B : Nat} {U D C : Option Addr} {nu cu nd cd nc cc : Nat} {up dn : Nat → Bool} (n1 : nu ≤ 9223372036854775806) (n2 : nd ≤ 9223372036854775806) (n3 : nc ≤ 9223372036854775806) (hB : B ≤ w.heap.size)
    (hu : Bools w B U nu up) (hd : Bools w B D nd dn) :
    Calls Tryz.prog 39 #[.agg #[.slice U nu cu, .slice D nd cd, .slice C nc cc]] w fun e w' => e = .returned (.bool (callsB nu nd nc up dn)) ∧ Below w.heap.size w w' := by
  have HB := Lib.hid ((Below.refl w.heap.size w).alloc (Nat.le_refl _) (.cells #[.slice U nu cu, .slice D nd cd, .slice C nc cc] 32))
  have hu1 := hu.alloc hB (.cells #[.slice U nu cu, .slice D nd cd, .slice C nc cc] 32)
  have hd1 := hd.alloc hB (.cells #[.slice U nu cu, .slice D nd cd, .slice C nc cc] 32)
  clear hu hd
  cases hin : inB (nc : Int) 1 8
  · have HN := Lib.hid (calls_no (nu := nu) (nd := nd) (nc := nc) (up := up) (dn := dn) (fun h => by have := inB_no.1 hin; omega))
    go_enter Tryz.func39, Tryz.ntmps39
    go_wp2_with (go_at_call 40; refine (l1In_any _ _ _ _).mono ?_; rintro e w1 ⟨rfl, rfl⟩)
    go_ret
    exact ⟨ret_bool HN.out.symm, HB.out⟩
  · obtain ⟨h1, h2⟩ := inB_iff.1 hin
    by_cases h3 : nu = nc
    · subst h3
      have e3 : ((nu : Int) == (nu : Int)) = true := by simp
      by_cases h4 : nd = nu
      · subst h4
        obtain ⟨b, off, rfl, _, hc⟩ := hu1 (by omega)
        obtain ⟨b', off', rfl, _, hc'⟩ := hd1 (by omega)
        have c0 := hc (nd - 1) (by omega)
        have c1 : (w.alloc (.cells #[.slice (some ⟨b, off, none⟩) nd cu, .slice (some ⟨b', off', none⟩) nd cd, .slice C nd cc] 32)).cell? ⟨b', off', none⟩ = some (.bool (dn 0)) := hc' 0 (by omega)
        have HN := Lib.hid (calls_end (nu := nd) (up := up) (dn := dn) (by omega) (by omega))
        obtain ⟨m, rfl⟩ : ∃ m, nd = m + 1 := ⟨nd - 1, by omega⟩
        rw [Nat.add_sub_cancel] at c0
        rw [Nat.add_sub_cancel] at HN
        have q6 : IntKind.i64.wrap ((m : Int) + 1 - 1) = (m : Int) := by rw [show (m : Int) + 1 - 1 = (m : Int) by omega]; exact IntWalk.i64_in _ (by omega)
        clear hc hc'
        cases hup : up m
        all_goals
          go_enter Tryz.func39, Tryz.ntmps39
          go_wp2_with (go_at_call 40; refine (l1In_any _ _ _ _).mono ?_; rintro e w1 ⟨rfl, rfl⟩)
          go_ret
          exact ⟨ret_bool (by rw [HN.out, hup]; simp), HB.out⟩
      · have e4 : ((nd : Int) == (nu : Int)) = false := by simp; omega
        have HN := Lib.hid (calls_no (nu := nu) (nd := nd) (nc := nu) (up := up) (dn := dn) (fun h => h4 h.2.2.1))
        clear h4
        go_enter Tryz.func39, Tryz.ntmps39
        go_wp2_with (go_at_call 40; refine (l1In_any _ _ _ _).mono ?_; rintro e w1 ⟨rfl, rfl⟩)
        go_ret
        exact ⟨ret_bool HN.out.symm, HB.out⟩
    · have e3 : ((nu : Int) == (nc : Int)) = false := by simp; omega
      have HN := Lib.hid (calls_no (nu := nu) (nd := nd) (nc := nc) (up := up) (dn := dn) (fun h => h3 h.2.2.2.symm))
      clear h3
      go_enter Tryz.func39, Tryz.ntmps39
      go_wp2_with (go_at_call 40; refine (l1In_any _ _ _ _).mono ?_; rintro e w1 ⟨rfl, rfl⟩)
      go_ret
      exact ⟨ret_bool HN.out.symm, HB.out⟩
end Go.Proofs.YthkpikkjgggimaaGreatDoor

namespace Go.Proofs.YthkpikkjgggimaaGreatDoor
open Go.RowKit
set_option linter.unusedVariables false
set_option linter.unusedSimpArgs false

theorem below_drew {B : Nat} {a w w' : World} (h : Below B a w) (hd : Drew w w') : Below B a w' := by
  obtain ⟨m, rfl⟩ := hd
  exact below_drewN h m
theorem Bx.drewed {w w' : World} {g : Nat} {xs : Array Value} (h : Bx w g xs) (hd : Drew w w') : Bx w' g xs := by
  obtain ⟨m, rfl⟩ := hd
  exact h
theorem Ints.drewed {w w' : World} {B : Nat} {A : Option Addr} {n : Nat} {f : Nat → Int} (h : Ints w B A n f) (hd : Drew w w') : Ints w' B A n f := by
  obtain ⟨m, rfl⟩ := hd
  exact h.drewN m

set_option maxHeartbeats 1600000 in
theorem spec_LiftValid {w : World} {B : Nat} {A : Option Addr} {n c : Nat} {f : Nat → Int} (pos sp gap hold : Int) (hn : n ≤ 9223372036854775806) (hB : B ≤ w.heap.size) (hs : Ints w B A n f) :
    Calls Tryz.prog 38 #[.slice A n c, .agg #[.int .i64 pos, .int .i64 sp, .int .i64 gap, .int .i64 hold]] w fun e w' => e = .returned (.bool (liftB f n pos sp gap hold)) ∧ Below w.heap.size w w' := by
  have HX0 := Lib.hid (Bx.new w #[.int .i64 pos, .int .i64 sp, .int .i64 gap, .int .i64 hold] 29)
  have HB0 := Lib.hid ((Below.refl w.heap.size w).alloc (Nat.le_refl _) (.cells #[.int .i64 pos, .int .i64 sp, .int .i64 gap, .int .i64 hold] 29))
  have HS0 := Lib.hid (hs.alloc hB (.cells #[.int .i64 pos, .int .i64 sp, .int .i64 gap, .int .i64 hold] 29))
  have key : ∃ (st : Bool), Hid (st = decide (0 ≤ standF f n pos sp)) ∧ ((sp == 0) = true ∧ Hid (floorAtOf f n pos = standF f n pos sp) ∨ (sp == 0) = false ∧ st = false) := by
    refine ⟨_, Lib.hid rfl, ?_⟩
    by_cases h : sp = 0
    · exact .inl ⟨by simp [h], Lib.hid (by simp [standF, h])⟩
    · exact .inr ⟨by simp [h], by simp [standF, h]⟩
  obtain ⟨st, hst, hk⟩ := key
  clear hs
  rcases hk with ⟨h1, h2⟩ | ⟨h1, rfl⟩
  all_goals
    go_enter Tryz.func38, Tryz.ntmps38
    go_wp2_with fail
  · refine (spec_FloorAt pos hn HS0.out).mono ?_
    rintro e w1 ⟨rfl, hd1⟩
    have HX1 := Lib.hid (HX0.out.drewed hd1)
    have HB1 := Lib.hid (below_drew HB0.out hd1)
    have HS1 := Lib.hid (HS0.out.drewed hd1)
    have hx1 := HX1.out.cells
    rw [h2.out]
    have hS : decide (0 ≤ standF f n pos sp) = st := hst.out.symm
    clear hd1 HX0 HB0 HS0
    go_wp2_with fail
    refine (spec_FloorsValid hn HS1.out).mono ?_
    rintro e w2 ⟨rfl, hd2⟩
    have HX2 := Lib.hid (HX1.out.drewed hd2)
    have HB2 := Lib.hid (below_drew HB1.out hd2)
    clear hx1 hd2 HX1 HB1 HS1
    have hx2 := HX2.out.cells
    cases hf : floorsB f n
    · go_wp2
      go_ret
      exact ⟨ret_bool (by simp [liftB, hf]), HB2.out⟩
    · go_wp2_with fail
      refine (spec_MotionValid pos sp _).mono ?_
      rintro e w3 ⟨rfl, hb3⟩
      have HX3 := Lib.hid (HX2.out.below hb3 HX2.out.lt)
      have HB3 := Lib.hid (HB2.out.trans (hb3.mono HB2.out.size))
      clear hx2 hb3 HX2 HB2
      have hx3 := HX3.out.cells
      cases hm : motionB pos sp
      · go_wp2
        go_ret
        exact ⟨ret_bool (by simp [liftB, hm]), HB3.out⟩
      · go_wp2_with fail
        refine (spec_DoorValid gap hold _).mono ?_
        rintro e w4 ⟨rfl, hb4⟩
        have HX4 := Lib.hid (HX3.out.below hb4 HX3.out.lt)
        have HB4 := Lib.hid (HB3.out.trans (hb4.mono HB3.out.size))
        clear hx3 hb4 HX3 HB3
        have hx4 := HX4.out.cells
        have HN : Hid ((decide (gap = 0) || st) = liftB f n pos sp gap hold) ∨ doorB gap hold = false := by
          cases hd : doorB gap hold
          · exact .inr rfl
          · exact .inl (Lib.hid (by rw [hst.out]; simp [liftB, hf, hm, hd]))
        rcases HN with HN | hd
        · have hd : doorB gap hold = true ∨ doorB gap hold = false := by cases doorB gap hold <;> simp
          rcases hd with hd | hd
          · cases hg : (gap == 0)
            all_goals
              go_wp2
              go_ret
              exact ⟨ret_bool (by rw [← HN.out]; simp at hg; simp [hg]), HB4.out⟩
          · go_wp2
            go_ret
            exact ⟨ret_bool (by simp [liftB, hd]), HB4.out⟩
        · go_wp2
          go_ret
          exact ⟨ret_bool (by simp [liftB, hd]), HB4.out⟩
  · have HX1 := Lib.hid HX0.out
    have HB1 := Lib.hid HB0.out
    have HS1 := Lib.hid HS0.out
    have hx1 := HX1.out.cells
    clear HX0 HB0 HS0
    generalize w.alloc (.cells #[.int .i64 pos, .int .i64 sp, .int .i64 gap, .int .i64 hold] 29) = w1 at *
    refine (spec_FloorsValid hn HS1.out).mono ?_
    rintro e w2 ⟨rfl, hd2⟩
    have HX2 := Lib.hid (HX1.out.drewed hd2)
    have HB2 := Lib.hid (below_drew HB1.out hd2)
    clear hx1 hd2 HX1 HB1 HS1
    have hx2 := HX2.out.cells
    cases hf : floorsB f n
    · go_wp2
      go_ret
      exact ⟨ret_bool (by simp [liftB, hf]), HB2.out⟩
    · go_wp2_with fail
      refine (spec_MotionValid pos sp _).mono ?_
      rintro e w3 ⟨rfl, hb3⟩
      have HX3 := Lib.hid (HX2.out.below hb3 HX2.out.lt)
      have HB3 := Lib.hid (HB2.out.trans (hb3.mono HB2.out.size))
      clear hx2 hb3 HX2 HB2
      have hx3 := HX3.out.cells
      cases hm : motionB pos sp
      · go_wp2
        go_ret
        exact ⟨ret_bool (by simp [liftB, hm]), HB3.out⟩
      · go_wp2_with fail
        refine (spec_DoorValid gap hold _).mono ?_
        rintro e w4 ⟨rfl, hb4⟩
        have HX4 := Lib.hid (HX3.out.below hb4 HX3.out.lt)
        have HB4 := Lib.hid (HB3.out.trans (hb4.mono HB3.out.size))
        clear hx3 hb4 HX3 HB3
        have hx4 := HX4.out.cells
        have HN : Hid ((decide (gap = 0) || false) = liftB f n pos sp gap hold) ∨ doorB gap hold = false := by
          cases hd : doorB gap hold
          · exact .inr rfl
          · exact .inl (Lib.hid (by rw [hst.out]; simp [liftB, hf, hm, hd]))
        rcases HN with HN | hd
        · have hd : doorB gap hold = true ∨ doorB gap hold = false := by cases doorB gap hold <;> simp
          rcases hd with hd | hd
          · cases hg : (gap == 0)
            all_goals
              go_wp2
              go_ret
              exact ⟨ret_bool (by rw [← HN.out]; simp at hg; simp [hg]), HB4.out⟩
          · go_wp2
            go_ret
            exact ⟨ret_bool (by simp [liftB, hd]), HB4.out⟩
        · go_wp2
          go_ret
          exact ⟨ret_bool (by simp [liftB, hd]), HB4.out⟩
end Go.Proofs.YthkpikkjgggimaaGreatDoor

namespace Go.Proofs.YthkpikkjgggimaaGreatDoor
open Go.RowKit
set_option linter.unusedVariables false
set_option linter.unusedSimpArgs false

/-- No slice of a building is longer than that. -/
def Bld.Small (b : Bld) : Prop := b.n ≤ 17592186044415 ∧ b.nu ≤ 17592186044415 ∧ b.nd ≤ 17592186044415 ∧ b.nc ≤ 17592186044415

theorem l27Here_any {w : World} {B : Nat} {v : Bv} {b : Bld} (hn : b.Small) (hB : B ≤ w.heap.size) (hr : ReadB w B v b) :
    Calls Tryz.prog 41 #[bval v b] w fun e w' => e = .returned (.int .i64 b.stand) ∧ Below w.heap.size w w' := by
  have HB := Lib.hid ((Below.refl w.heap.size w).alloc (Nat.le_refl _) (.cells (bcells v b) 36))
  have HS := Lib.hid (hr.alloc hB (.cells (bcells v b) 36)).h
  have hn0 := hn.1
  clear hr hn
  unfold bval bcells at *
  by_cases h : b.sp = 0
  · have h1 : (b.sp != 0) = false := by simp [h]
    have HN : Hid (floorAtOf b.f b.n b.pos = b.stand) := Lib.hid (by simp [Bld.stand, standF, h])
    clear h
    go_enter Tryz.func41, Tryz.ntmps41
    go_wp2_with fail
    refine (spec_FloorAt b.pos (by omega) HS.out).mono ?_
    rintro e w1 ⟨rfl, hd⟩
    have HB1 := Lib.hid (below_drew HB.out hd)
    clear hd
    go_wp2
    go_ret
    exact ⟨ret_int HN.out, HB1.out⟩
  · have h1 : (b.sp != 0) = true := by simp [h]
    have HN : Hid (-1 = b.stand) := Lib.hid (by simp [Bld.stand, standF, h])
    clear h
    go_enter Tryz.func41, Tryz.ntmps41
    go_wp2
    go_ret
    exact ⟨ret_int HN.out, HB.out⟩

theorem valid_no1 {b : Bld} (h : liftB b.f b.n b.pos b.sp b.gap b.hold = false) : b.valid = false := by simp [Bld.valid, h]
theorem valid_no2 {b : Bld} (h : callsB b.nu b.nd b.nc b.up b.dn = false) : b.valid = false := by simp [Bld.valid, h]
theorem valid_no3 {b : Bld} (h : b.nu ≠ b.n) : b.valid = false := by simp [Bld.valid, h]
theorem valid_end {b : Bld} (h1 : liftB b.f b.n b.pos b.sp b.gap b.hold = true) (h2 : callsB b.nu b.nd b.nc b.up b.dn = true) (h3 : b.nu = b.n) : b.valid = haltB b.n b.stand b.gap b.fl b.dir b.op := by
  simp only [Bld.valid, h1, h2, Bool.true_and]; simp [h3]

set_option maxHeartbeats 3200000 in
theorem impl_BuildValid {w : World} {B : Nat} {v : Bv} {b : Bld} (hn : b.Small) (hB : B ≤ w.heap.size) (hr : ReadB w B v b) :
    Calls Tryz.prog 28 #[bval v b] w fun e w' => e = .returned (.bool b.valid) ∧ Below w.heap.size w w' := by
  have HX0 := Lib.hid (Bx.new w (bcells v b) 36)
  have HB0 := Lib.hid ((Below.refl w.heap.size w).alloc (Nat.le_refl _) (.cells (bcells v b) 36))
  have HR0 := Lib.hid (hr.alloc hB (.cells (bcells v b) 36))
  obtain ⟨m0, m1, m2, m3⟩ := hn
  clear hr
  unfold bval bcells at *
  go_enter Tryz.func28, Tryz.ntmps28
  go_wp2_with fail
  refine (impl_LiftValid b.pos b.sp b.gap b.hold (by omega) (Nat.le_trans hB HB0.out.size) HR0.out.h).mono ?_
  rintro e w1 ⟨rfl, hb1⟩
  have HX1 := Lib.hid (HX0.out.below hb1 HX0.out.lt)
  have HB1 := Lib.hid (HB0.out.trans (hb1.mono HB0.out.size))
  have HR1 := Lib.hid (HR0.out.below (hb1.mono (Nat.le_trans hB HB0.out.size)))
  clear hb1 HX0 HB0 HR0
  have hx1 := HX1.out.cells
  cases hL : liftB b.f b.n b.pos b.sp b.gap b.hold
  · have HN := Lib.hid (valid_no1 hL)
    go_wp2
    go_ret
    exact ⟨ret_bool HN.out.symm, HB1.out⟩
  · go_wp2_with fail
    refine (impl_CallsValid (by omega) (by omega) (by omega) (Nat.le_trans hB HB1.out.size) HR1.out.u HR1.out.d).mono ?_
    rintro e w2 ⟨rfl, hb2⟩
    have HX2 := Lib.hid (HX1.out.below hb2 HX1.out.lt)
    have HB2 := Lib.hid (HB1.out.trans (hb2.mono HB1.out.size))
    have HR2 := Lib.hid (HR1.out.below (hb2.mono (Nat.le_trans hB HB1.out.size)))
    clear hx1 hb2 HX1 HB1 HR1
    have hx2 := HX2.out.cells
    cases hC : callsB b.nu b.nd b.nc b.up b.dn
    · have HN := Lib.hid (valid_no2 hC)
      go_wp2
      go_ret
      exact ⟨ret_bool HN.out.symm, HB2.out⟩
    · by_cases hu : b.nu = b.n
      · have e1 : ((b.nu : Int) != (b.n : Int)) = false := by simp [hu]
        have HE := Lib.hid (valid_end hL hC hu)
        clear hu hL hC
        have hdir : ((b.dir != 1) = false ∧ Hid (b.dir = 1)) ∨ ((b.dir != 1) = true ∧ (b.dir != -1) = false ∧ Hid (b.dir = -1)) ∨ ((b.dir != 1) = true ∧ (b.dir != -1) = true ∧ Hid (haltB b.n b.stand b.gap b.fl b.dir b.op = false)) := by
          by_cases h1 : b.dir = 1
          · exact .inl ⟨by simp [h1], Lib.hid h1⟩
          · by_cases h2 : b.dir = -1
            · exact .inr (.inl ⟨by simp [h1], by simp [h2], Lib.hid h2⟩)
            · exact .inr (.inr ⟨by simp [h1], by simp [h2], Lib.hid (by simp [haltB, h1, h2])⟩)
        have done : Hid (b.dir = 1 ∨ b.dir = -1) → Hid (haltB b.n b.stand b.gap b.fl b.dir b.op = (if b.fl = -1 then decide (0 ≤ b.stand) else (inB b.fl 0 ((b.n : Int) - 1) && decide (b.gap = 0) && !b.op))) := fun h => Lib.hid (by
          unfold haltB
          rcases h.out with h | h <;> simp [h])
        rcases hdir with ⟨d1, hd⟩ | ⟨d1, d2, hd⟩ | ⟨d1, d2, hd⟩
        · have HD := done (Lib.hid (.inl hd.out))
          clear done
          by_cases hf : b.fl = -1
          · have f1 : (b.fl == -1) = true := by simp [hf]
            have HF : Hid (haltB b.n b.stand b.gap b.fl b.dir b.op = decide (0 ≤ b.stand)) := Lib.hid (by rw [HD.out, if_pos hf])
            clear hf HD
            go_wp2_with fail
            refine (standingFloor_any b.pos b.sp (by omega) (Nat.le_trans hB HB2.out.size) HR2.out.h).mono ?_
            rintro e w3 ⟨rfl, hb3⟩
            have HB3 := Lib.hid (HB2.out.trans (hb3.mono HB2.out.size))
            clear hx2 hb3 HX2 HB2 HR2
            go_wp2
            go_ret
            exact ⟨ret_bool (by rw [HE.out, HF.out]; rfl), HB3.out⟩
          · have f1 : (b.fl == -1) = false := by simp [hf]
            have HF : Hid (haltB b.n b.stand b.gap b.fl b.dir b.op = (inB b.fl 0 ((b.n : Int) - 1) && decide (b.gap = 0) && !b.op)) := Lib.hid (by rw [HD.out, if_neg hf])
            clear hf HD
            go_wp2_with fail
            refine (isFloor_any b.fl b.n _).mono ?_
            rintro e w3 ⟨rfl, rfl⟩
            cases hi : inB b.fl 0 ((b.n : Int) - 1)
            · go_wp2
              go_ret
              exact ⟨ret_bool (by rw [HE.out, HF.out, hi]; rfl), HB2.out⟩
            · cases hg : (b.gap == 0)
              all_goals
                go_wp2
                go_ret
                exact ⟨ret_bool (by rw [HE.out, HF.out, hi]; simp at hg; simp [hg]), HB2.out⟩
        · have HD := done (Lib.hid (.inr hd.out))
          clear done
          by_cases hf : b.fl = -1
          · have f1 : (b.fl == -1) = true := by simp [hf]
            have HF : Hid (haltB b.n b.stand b.gap b.fl b.dir b.op = decide (0 ≤ b.stand)) := Lib.hid (by rw [HD.out, if_pos hf])
            clear hf HD
            go_wp2_with fail
            refine (standingFloor_any b.pos b.sp (by omega) (Nat.le_trans hB HB2.out.size) HR2.out.h).mono ?_
            rintro e w3 ⟨rfl, hb3⟩
            have HB3 := Lib.hid (HB2.out.trans (hb3.mono HB2.out.size))
            clear hx2 hb3 HX2 HB2 HR2
            go_wp2
            go_ret
            exact ⟨ret_bool (by rw [HE.out, HF.out]; rfl), HB3.out⟩
          · have f1 : (b.fl == -1) = false := by simp [hf]
            have HF : Hid (haltB b.n b.stand b.gap b.fl b.dir b.op = (inB b.fl 0 ((b.n : Int) - 1) && decide (b.gap = 0) && !b.op)) := Lib.hid (by rw [HD.out, if_neg hf])
            clear hf HD
            go_wp2_with fail
            refine (isFloor_any b.fl b.n _).mono ?_
            rintro e w3 ⟨rfl, rfl⟩
            cases hi : inB b.fl 0 ((b.n : Int) - 1)
            · go_wp2
              go_ret
              exact ⟨ret_bool (by rw [HE.out, HF.out, hi]; rfl), HB2.out⟩
            · cases hg : (b.gap == 0)
              all_goals
                go_wp2
                go_ret
                exact ⟨ret_bool (by rw [HE.out, HF.out, hi]; simp at hg; simp [hg]), HB2.out⟩
        · go_wp2
          go_ret
          exact ⟨ret_bool (by rw [HE.out, hd.out]), HB2.out⟩
      · have e1 : ((b.nu : Int) != (b.n : Int)) = true := by simp; omega
        have HN := Lib.hid (valid_no3 hu)
        clear hu
        go_wp2
        go_ret
        exact ⟨ret_bool HN.out.symm, HB2.out⟩
end Go.Proofs.YthkpikkjgggimaaGreatDoor

namespace Go.Proofs.YthkpikkjgggimaaGreatDoor
open Go.RowKit
set_option linter.unusedVariables false
set_option linter.unusedSimpArgs false

set_option maxHeartbeats 3200000 in
theorem spec_BuildValid {w : World} {B : Nat} {v : Bv} {b : Bld} (hn : b.Small) (hB : B ≤ w.heap.size) (hr : ReadB w B v b) :
    Calls Tryz.prog 12 #[bval v b] w fun e w' => e = .returned (.bool b.valid) ∧ Below w.heap.size w w' := by
  have HX0 := Lib.hid (Bx.new w (bcells v b) 36)
  have HB0 := Lib.hid ((Below.refl w.heap.size w).alloc (Nat.le_refl _) (.cells (bcells v b) 36))
  have HR0 := Lib.hid (hr.alloc hB (.cells (bcells v b) 36))
  have HSm := Lib.hid hn
  obtain ⟨m0, m1, m2, m3⟩ := hn
  clear hr
  have HBV : Hid (bval v b = .agg #[.slice v.A b.n v.c, .int .i64 b.pos, .int .i64 b.sp, .int .i64 b.gap, .int .i64 b.hold, .slice v.U b.nu v.cu, .slice v.D b.nd v.cd, .slice v.C b.nc v.cc, .int .i64 b.fl, .int .i64 b.dir, .bool b.op]) := Lib.hid rfl
  unfold bval bcells at *
  go_enter Tryz.func12, Tryz.ntmps12
  go_wp2_with fail
  refine (spec_LiftValid b.pos b.sp b.gap b.hold (by omega) (Nat.le_trans hB HB0.out.size) HR0.out.h).mono ?_
  rintro e w1 ⟨rfl, hb1⟩
  have HX1 := Lib.hid (HX0.out.below hb1 HX0.out.lt)
  have HB1 := Lib.hid (HB0.out.trans (hb1.mono HB0.out.size))
  have HR1 := Lib.hid (HR0.out.below (hb1.mono (Nat.le_trans hB HB0.out.size)))
  clear hb1 HX0 HB0 HR0
  have hx1 := HX1.out.cells
  cases hL : liftB b.f b.n b.pos b.sp b.gap b.hold
  · have HN := Lib.hid (valid_no1 hL)
    go_wp2
    go_ret
    exact ⟨ret_bool HN.out.symm, HB1.out⟩
  · go_wp2_with fail
    refine (spec_CallsValid (by omega) (by omega) (by omega) (Nat.le_trans hB HB1.out.size) HR1.out.u HR1.out.d).mono ?_
    rintro e w2 ⟨rfl, hb2⟩
    have HX2 := Lib.hid (HX1.out.below hb2 HX1.out.lt)
    have HB2 := Lib.hid (HB1.out.trans (hb2.mono HB1.out.size))
    have HR2 := Lib.hid (HR1.out.below (hb2.mono (Nat.le_trans hB HB1.out.size)))
    clear hx1 hb2 HX1 HB1 HR1
    have hx2 := HX2.out.cells
    cases hC : callsB b.nu b.nd b.nc b.up b.dn
    · have HN := Lib.hid (valid_no2 hC)
      go_wp2
      go_ret
      exact ⟨ret_bool HN.out.symm, HB2.out⟩
    · have hnc : b.nc = b.nu := (callsB_iff.1 hC).2.2.2.1
      by_cases hu : b.nu = b.n
      · have e1 : ((b.nc : Int) != (b.n : Int)) = false := by simp; omega
        have HE := Lib.hid (valid_end hL hC hu)
        clear hu hL hC hnc
        have hdir : ((b.dir != 1) = false ∧ Hid (b.dir = 1)) ∨ ((b.dir != 1) = true ∧ (b.dir != -1) = false ∧ Hid (b.dir = -1)) ∨ ((b.dir != 1) = true ∧ (b.dir != -1) = true ∧ Hid (haltB b.n b.stand b.gap b.fl b.dir b.op = false)) := by
          by_cases h1 : b.dir = 1
          · exact .inl ⟨by simp [h1], Lib.hid h1⟩
          · by_cases h2 : b.dir = -1
            · exact .inr (.inl ⟨by simp [h1], by simp [h2], Lib.hid h2⟩)
            · exact .inr (.inr ⟨by simp [h1], by simp [h2], Lib.hid (by simp [haltB, h1, h2])⟩)
        have done : Hid (b.dir = 1 ∨ b.dir = -1) → Hid (haltB b.n b.stand b.gap b.fl b.dir b.op = (if b.fl = -1 then decide (0 ≤ b.stand) else (inB b.fl 0 ((b.n : Int) - 1) && decide (b.gap = 0) && !b.op))) := fun h => Lib.hid (by
          unfold haltB
          rcases h.out with h | h <;> simp [h])
        rcases hdir with ⟨d1, hd⟩ | ⟨d1, d2, hd⟩ | ⟨d1, d2, hd⟩
        · have HD := done (Lib.hid (.inl hd.out))
          clear done
          go_wp2_with fail
          refine (l1In_any b.fl (-1) ((b.n : Int) - 1) _).mono ?_
          rintro e w3 ⟨rfl, rfl⟩
          cases hi : inB b.fl (-1) ((b.n : Int) - 1)
          · have HF : Hid (haltB b.n b.stand b.gap b.fl b.dir b.op = false) := Lib.hid (by
              have := inB_no.1 hi
              rw [HD.out, if_neg (by omega), inB_no.2 (by omega)]; rfl)
            go_wp2
            go_ret
            exact ⟨ret_bool (by rw [HE.out, HF.out]), HB2.out⟩
          · obtain ⟨i1, i2⟩ := inB_iff.1 hi
            by_cases hf : 0 ≤ b.fl
            · have HF : Hid (haltB b.n b.stand b.gap b.fl b.dir b.op = (decide (b.gap = 0) && !b.op)) := Lib.hid (by rw [HD.out, if_neg (by omega), inB_iff.2 ⟨hf, i2⟩]; rfl)
              cases hg : (b.gap == 0)
              all_goals
                go_wp2
                go_ret
                exact ⟨ret_bool (by rw [HE.out, HF.out]; simp at hg; simp [hg]), HB2.out⟩
            · have HF : Hid (haltB b.n b.stand b.gap b.fl b.dir b.op = decide (0 ≤ b.stand)) := Lib.hid (by rw [HD.out, if_pos (by omega)])
              go_wp2_with fail
              refine (l27Here_any HSm.out (Nat.le_trans hB HB2.out.size) HR2.out).mono ?_
              rintro e w3 ⟨rfl, hb3⟩
              have HB3 := Lib.hid (HB2.out.trans (hb3.mono HB2.out.size))
              clear hx2 hb3 HX2 HB2 HR2
              go_wp2
              go_ret
              exact ⟨ret_bool (by rw [HE.out, HF.out]), HB3.out⟩
        · have HD := done (Lib.hid (.inr hd.out))
          clear done
          go_wp2_with fail
          refine (l1In_any b.fl (-1) ((b.n : Int) - 1) _).mono ?_
          rintro e w3 ⟨rfl, rfl⟩
          cases hi : inB b.fl (-1) ((b.n : Int) - 1)
          · have HF : Hid (haltB b.n b.stand b.gap b.fl b.dir b.op = false) := Lib.hid (by
              have := inB_no.1 hi
              rw [HD.out, if_neg (by omega), inB_no.2 (by omega)]; rfl)
            go_wp2
            go_ret
            exact ⟨ret_bool (by rw [HE.out, HF.out]), HB2.out⟩
          · obtain ⟨i1, i2⟩ := inB_iff.1 hi
            by_cases hf : 0 ≤ b.fl
            · have HF : Hid (haltB b.n b.stand b.gap b.fl b.dir b.op = (decide (b.gap = 0) && !b.op)) := Lib.hid (by rw [HD.out, if_neg (by omega), inB_iff.2 ⟨hf, i2⟩]; rfl)
              cases hg : (b.gap == 0)
              all_goals
                go_wp2
                go_ret
                exact ⟨ret_bool (by rw [HE.out, HF.out]; simp at hg; simp [hg]), HB2.out⟩
            · have HF : Hid (haltB b.n b.stand b.gap b.fl b.dir b.op = decide (0 ≤ b.stand)) := Lib.hid (by rw [HD.out, if_pos (by omega)])
              go_wp2_with fail
              refine (l27Here_any HSm.out (Nat.le_trans hB HB2.out.size) HR2.out).mono ?_
              rintro e w3 ⟨rfl, hb3⟩
              have HB3 := Lib.hid (HB2.out.trans (hb3.mono HB2.out.size))
              clear hx2 hb3 HX2 HB2 HR2
              go_wp2
              go_ret
              exact ⟨ret_bool (by rw [HE.out, HF.out]), HB3.out⟩
        · go_wp2
          go_ret
          exact ⟨ret_bool (by rw [HE.out, hd.out]), HB2.out⟩
      · have e1 : ((b.nc : Int) != (b.n : Int)) = true := by simp; omega
        have HN := Lib.hid (valid_no3 hu)
        clear hu hnc
        go_wp2
        go_ret
        exact ⟨ret_bool HN.out.symm, HB2.out⟩
end Go.Proofs.YthkpikkjgggimaaGreatDoor
