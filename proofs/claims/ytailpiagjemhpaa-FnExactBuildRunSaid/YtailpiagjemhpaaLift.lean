/-
  The contracts of the car and of calls: standingFloor, LiftValid, CallsValid, BuildValid. No claim stands here.
-/
import Derived.Test.YtailpiagjemhpaaBox
namespace Go.Proofs.Ytailpiagjemhpaa
open Go.RowKit
set_option linter.unusedVariables false
set_option linter.unusedSimpArgs false

theorem spec_MotionValid (a s : Int) (w : World) : Calls Try.prog 109 #[.agg #[.int .i64 a, .int .i64 s]] w fun e w' => e = .returned (.bool (motionB a s)) ∧ Below w.heap.size w w' := by
  have HB := Lib.hid ((Below.refl w.heap.size w).alloc (Nat.le_refl _) (.cells #[.int .i64 a, .int .i64 s] 25))
  cases h : inB a 0 60
  all_goals
    go_enter Try.func109, Try.ntmps109
    go_wp2_with (go_at_call 67; refine (l1In_any _ _ _ _).mono ?_; rintro e w1 ⟨rfl, rfl⟩)
    go_ret
    exact ⟨ret_bool (by simp [motionB, h]), HB.out⟩

theorem spec_DoorValid (g h : Int) (w : World) : Calls Try.prog 110 #[.agg #[.int .i64 g, .int .i64 h]] w fun e w' => e = .returned (.bool (doorB g h)) ∧ Below w.heap.size w w' := by
  have HB := Lib.hid ((Below.refl w.heap.size w).alloc (Nat.le_refl _) (.cells #[.int .i64 g, .int .i64 h] 27))
  cases h1 : inB g 0 4
  · go_enter Try.func110, Try.ntmps110
    go_wp2_with (go_at_call 67; refine (l1In_any _ _ _ _).mono ?_; rintro e w1 ⟨rfl, rfl⟩)
    go_ret
    exact ⟨ret_bool (by simp [doorB, h1]), HB.out⟩
  · cases h2 : inB h 0 3
    · go_enter Try.func110, Try.ntmps110
      go_wp2_with (go_at_call 67; refine (l1In_any _ _ _ _).mono ?_; rintro e w1 ⟨rfl, rfl⟩)
      go_ret
      exact ⟨ret_bool (by simp [doorB, h1, h2]), HB.out⟩
    · cases h3 : (h == 0)
      all_goals
        go_enter Try.func110, Try.ntmps110
        go_wp2_with (go_at_call 67; refine (l1In_any _ _ _ _).mono ?_; rintro e w1 ⟨rfl, rfl⟩)
        go_ret
        exact ⟨ret_bool (by simp only [doorB, h1, h2]; simp at h3; simp [h3] <;> (rw [Bool.eq_iff_iff]; simp)), HB.out⟩

theorem standingFloor_any {w : World} {B : Nat} {A : Option Addr} {n c : Nat} {f : Nat → Int} (pos sp : Int) (hn : n ≤ 9223372036854775806) (hB : B ≤ w.heap.size) (hs : Ints w B A n f) :
    Calls Try.prog 63 #[.slice A n c, .agg #[.int .i64 pos, .int .i64 sp]] w fun e w' => e = .returned (.int .i64 (standF f n pos sp)) ∧ Below w.heap.size w w' := by
  have HB := Lib.hid ((Below.refl w.heap.size w).alloc (Nat.le_refl _) (.cells #[.int .i64 pos, .int .i64 sp] 25))
  have HS := Lib.hid (hs.alloc hB (.cells #[.int .i64 pos, .int .i64 sp] 25))
  clear hs
  by_cases h : sp = 0
  · have h1 : (sp != 0) = false := by simp [h]
    have HN : Hid (floorAtOf f n pos = standF f n pos sp) := Lib.hid (by simp [standF, h])
    clear h
    go_enter Try.func63, Try.ntmps63
    go_wp2_with fail
    refine (impl_FloorAt pos hn HS.out).mono ?_
    rintro e w1 ⟨rfl, j, rfl⟩
    go_wp2
    go_ret
    exact ⟨ret_int HN.out, below_drewN HB.out j⟩
  · have h1 : (sp != 0) = true := by simp [h]
    have HN : Hid (-1 = standF f n pos sp) := Lib.hid (by simp [standF, h])
    clear h
    go_enter Try.func63, Try.ntmps63
    go_wp2
    go_ret
    exact ⟨ret_int HN.out, HB.out⟩

set_option maxHeartbeats 800000 in
theorem spec_FloorAt {w : World} {B : Nat} {A : Option Addr} {n c : Nat} {f : Nat → Int} (a : Int) (hn : n ≤ 9223372036854775806) (hs : Ints w B A n f) :
    Calls Try.prog 107 #[.slice A n c, .int .i64 a] w fun e w' => e = .returned (.int .i64 (floorAtOf f n a)) ∧ Drew w w' := by
  have HS : Hid (∀ j, Ints (w.drewN j) B A n f) := Lib.hid (fun j => hs.drewN j)
  cases hv : floorsB f n
  · have HN := Lib.hid (floorAt_no (a := a) hv)
    go_enter Try.func107, Try.ntmps107
    go_wp2
    go_loopw [5] (fun s5 wr => s5 = .int .i64 0 ∧ wr = w) (fun _ _ => 0)
    case atStart => exact ⟨rfl, rfl⟩
    case round =>
      obtain ⟨rfl, rfl⟩ := hrel
      by_cases h0 : 0 < n
      · go_wp2_with (go_at_call 108; refine (spec_FloorsValid hn hs).mono ?_; rintro e w' ⟨rfl, m, rfl⟩)
        go_ret
        exact ⟨ret_int HN.out.symm, _, rfl⟩
      · obtain rfl : n = 0 := by omega
        go_wp2
        go_ret
        exact ⟨ret_int HN.out.symm, Drew.refl _⟩
  · have HV := Lib.hid hv
    go_enter Try.func107, Try.ntmps107
    go_wp2
    go_loopw [5] (fun s5 wr => ∃ k : Nat, k ≤ n ∧ s5 = .int .i64 k ∧ Hid (∀ i, i < k → heightP f a i = false) ∧ Drew w wr) (fun s5 _ => n - (intOf s5).toNat)
    case atStart => exact ⟨0, Nat.zero_le _, rfl, fun i hi => absurd hi (by omega), Drew.refl _⟩
    case round =>
      obtain ⟨k, hk, rfl, HK, j, rfl⟩ := hrel
      by_cases hlt : k < n
      · obtain ⟨b, off, rfl, _, hc⟩ := hs (by omega)
        have c0 := hc k hlt
        clear hc hs
        cases he : (f k == a)
        · have HN : Hid (∀ i, i < k + 1 → heightP f a i = false) := fun i hi => by
            by_cases e : i = k
            · subst e; exact he
            · exact HK.out i (by omega)
          go_wp2_with (go_at_call 108; refine (spec_FloorsValid hn (HS.out _)).mono ?_; rintro e w' ⟨rfl, m, rfl⟩)
          go_roundw
          case rel => exact ⟨k + 1, by omega, by go_num, HN.out, by first | exact ⟨_, rfl⟩ | exact ⟨_, World.drewN_drewN _ _ _⟩⟩
          case measure => simp [intOf]; omega
        · have HN := Lib.hid (floorAt_hit HV.out hlt he HK.out)
          go_wp2_with (go_at_call 108; refine (spec_FloorsValid hn (HS.out _)).mono ?_; rintro e w' ⟨rfl, m, rfl⟩)
          go_ret
          exact ⟨ret_int HN.out.symm, by first | exact ⟨_, rfl⟩ | exact ⟨_, World.drewN_drewN _ _ _⟩⟩
      · obtain rfl : k = n := by omega
        have HN := Lib.hid (floorAt_none HK.out)
        go_wp2
        go_ret
        exact ⟨ret_int HN.out.symm, _, rfl⟩

set_option maxHeartbeats 1600000 in
theorem impl_LiftValid {w : World} {B : Nat} {A : Option Addr} {n c : Nat} {f : Nat → Int} (pos sp gap hold : Int) (hn : n ≤ 9223372036854775806) (hB : B ≤ w.heap.size) (hs : Ints w B A n f) :
    Calls Try.prog 20 #[.slice A n c, .agg #[.int .i64 pos, .int .i64 sp, .int .i64 gap, .int .i64 hold]] w fun e w' => e = .returned (.bool (liftB f n pos sp gap hold)) ∧ Below w.heap.size w w' := by
  have HX0 := Lib.hid (Bx.new w #[.int .i64 pos, .int .i64 sp, .int .i64 gap, .int .i64 hold] 29)
  have HB0 := Lib.hid ((Below.refl w.heap.size w).alloc (Nat.le_refl _) (.cells #[.int .i64 pos, .int .i64 sp, .int .i64 gap, .int .i64 hold] 29))
  have HS0 := Lib.hid (hs.alloc hB (.cells #[.int .i64 pos, .int .i64 sp, .int .i64 gap, .int .i64 hold] 29))
  clear hs
  go_enter Try.func20, Try.ntmps20
  go_wp2_with fail
  refine (impl_FloorsValid hn HS0.out).mono ?_
  rintro e w1 ⟨rfl, j, rfl⟩
  have HX1 := Lib.hid (HX0.out.drewN j)
  have HB1 := Lib.hid (below_drewN HB0.out j)
  have HS1 := Lib.hid (HS0.out.drewN j)
  clear HX0 HB0 HS0
  generalize (w.alloc (.cells #[.int .i64 pos, .int .i64 sp, .int .i64 gap, .int .i64 hold] 29)).drewN j = w1 at *
  have hx1 := HX1.out.cells
  cases hf : floorsB f n
  · go_wp2
    go_ret
    exact ⟨ret_bool (by simp [liftB, hf]), HB1.out⟩
  · go_wp2_with fail
    refine (impl_MotionValid pos sp _).mono ?_
    rintro e w2 ⟨rfl, hb2⟩
    have HX2 := Lib.hid (HX1.out.below hb2 HX1.out.lt)
    have HB2 := Lib.hid (HB1.out.trans (hb2.mono HB1.out.size))
    have HS2 := Lib.hid (HS1.out.below (hb2.mono (Nat.le_trans hB HB1.out.size)))
    clear hx1 hb2 HX1 HB1 HS1
    have hx2 := HX2.out.cells
    cases hm : motionB pos sp
    · go_wp2
      go_ret
      exact ⟨ret_bool (by simp [liftB, hm]), HB2.out⟩
    · go_wp2_with fail
      refine (impl_DoorValid gap hold _).mono ?_
      rintro e w3 ⟨rfl, hb3⟩
      have HX3 := Lib.hid (HX2.out.below hb3 HX2.out.lt)
      have HB3 := Lib.hid (HB2.out.trans (hb3.mono HB2.out.size))
      have HS3 := Lib.hid (HS2.out.below (hb3.mono (Nat.le_trans hB HB2.out.size)))
      clear hx2 hb3 HX2 HB2 HS2
      have hx3 := HX3.out.cells
      cases hd : doorB gap hold
      · go_wp2
        go_ret
        exact ⟨ret_bool (by simp [liftB, hd]), HB3.out⟩
      · cases hg : (gap == 0)
        · go_wp2_with fail
          refine (standingFloor_any pos sp hn (Nat.le_trans hB HB3.out.size) HS3.out).mono ?_
          rintro e w4 ⟨rfl, hb4⟩
          have HB4 := Lib.hid (HB3.out.trans (hb4.mono HB3.out.size))
          clear hx3 hb4 HX3 HB3 HS3
          have HN : Hid (decide (0 ≤ standF f n pos sp) = liftB f n pos sp gap hold) := Lib.hid (by simp at hg; simp [liftB, hf, hm, hd, hg])
          generalize standF f n pos sp = S at *
          clear hf hm hd
          go_wp2
          go_ret
          exact ⟨ret_bool HN.out, HB4.out⟩
        · go_wp2
          go_ret
          exact ⟨ret_bool (by simp only [liftB, hf, hm, hd]; simp at hg; simp [hg]), HB3.out⟩
end Go.Proofs.Ytailpiagjemhpaa
