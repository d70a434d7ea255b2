/-
  The contracts of callToGo, stopToward, NextStop of the program. No claim stands here.
-/
import Derived.Test.YthkpikkjgggimaaGreatDoorToward
import Derived.Test.YthkpikkjgggimaaGreatDoorDoor
namespace Go.Proofs.YthkpikkjgggimaaGreatDoor
open Go.RowKit
set_option linter.unusedVariables false
set_option linter.unusedSimpArgs false

set_option maxHeartbeats 1600000 in
theorem callToGo_any {w : World} {B n k : Nat} {U D C : Option Addr} {cu cd cc : Nat} {up dn car : Nat → Bool} {dir : Int} (hk : k < n) (hn : n ≤ 8) (hB : B ≤ w.heap.size)
    (hu : Bools w B U n up) (hd : Bools w B D n dn) :
    Calls Tryz.prog 143 #[.agg #[.slice U n cu, .slice D n cd, .slice C n cc], .int .i64 k, .int .i64 dir] w fun e w' => e = .returned (.bool (callGo up dn k dir)) ∧ Below w.heap.size w w' := by
  have HB0 := Lib.hid ((Below.refl w.heap.size w).alloc (Nat.le_refl _) (.cells #[.slice U n cu, .slice D n cd, .slice C n cc] 32))
  obtain ⟨b1, o1, rfl, _, g1⟩ := hu.alloc hB (.cells #[.slice U n cu, .slice D n cd, .slice C n cc] 32) (by omega)
  obtain ⟨b2, o2, rfl, _, g2⟩ := hd.alloc hB (.cells #[.slice (some ⟨b1, o1, none⟩) n cu, .slice D n cd, .slice C n cc] 32) (by omega)
  have c1 := g1 k hk
  have c2 := g2 k hk
  clear g1 g2 hu hd
  by_cases h : 0 < dir
  · have HN : Hid (callGo up dn k dir = up k) := Lib.hid (by simp [callGo, h])
    go_enter Tryz.func143, Tryz.ntmps143
    go_wp2
    go_ret
    exact ⟨ret_bool HN.out.symm, HB0.out⟩
  · have HN : Hid (callGo up dn k dir = dn k) := Lib.hid (by simp [callGo, h])
    go_enter Tryz.func143, Tryz.ntmps143
    go_wp2
    go_ret
    exact ⟨ret_bool HN.out.symm, HB0.out⟩

theorem noStop_any (w : World) : Calls Tryz.prog 128 #[] w fun e w' => e = .returned (.agg #[.int .i64 (-1), .int .i64 0]) ∧ Below w.heap.size w w' := by
  go_enter Tryz.func128, Tryz.ntmps128
  go_wp2
  refine bodyPost_ret (v := .agg #[.int .i64 (-1), .int .i64 0]) (by simp [results, Tryz.results128, go_sem]) rfl ⟨rfl, ?_⟩
  repeat (refine below_set (by simp <;> omega) ?_)
  exact (Below.refl w.heap.size w).alloc (Nat.le_refl _) _

set_option maxHeartbeats 6400000 in
theorem stopToward_any {w : World} {B n : Nat} {U D C : Option Addr} {cu cd cc : Nat} {up dn car : Nat → Bool} {fl dir : Int} (hn : n ≤ 8) (h0 : 0 ≤ fl) (h1 : fl < n) (hd : dir = 1 ∨ dir = -1) (hB : B ≤ w.heap.size)
    (hu : Bools w B U n up) (hdn : Bools w B D n dn) (hc : Bools w B C n car) :
    Calls Tryz.prog 129 #[.agg #[.slice U n cu, .slice D n cd, .slice C n cc], .int .i64 fl, .int .i64 dir] w fun e w' =>
      e = .returned (.agg #[.int .i64 (towardFl n up dn car fl dir), .int .i64 (towardDir n up dn car fl dir)]) ∧ Below w.heap.size w w' := by
  have HD := Lib.hid hd
  have HU := Lib.hid hu
  have HDN := Lib.hid hdn
  have HC := Lib.hid hc
  have d1 : -1 ≤ dir := by omega
  have d2 : dir ≤ 1 := by omega
  clear hu hdn hc hd
  go_enter Tryz.func129, Tryz.ntmps129
  go_wp2_with fail
  refine (noStop_any _).mono ?_
  rintro e w1 ⟨rfl, hb1⟩
  obtain ⟨x, y, hbb, hs1⟩ := boxes2' hb1
  have HX1 := Lib.hid (x.alloc (.cells #[.int .i64 (-1), .int .i64 0] 34))
  have HY1 := Lib.hid (y.alloc (.cells #[.int .i64 (-1), .int .i64 0] 34))
  have HZ1 := Lib.hid (Bx.new w1 #[.int .i64 (-1), .int .i64 0] 34)
  have HB1 := Lib.hid (hbb.alloc hbb.size (.cells #[.int .i64 (-1), .int .i64 0] 34))
  clear hb1 x y hbb
  go_wp2
  go_loopw [8] (fun s8 wr => ∃ (j : Nat) (x bf bd : Int), s8 = .int .i64 x ∧ -1 ≤ x ∧ x ≤ 8 ∧ Hid (j ≤ ways n fl dir) ∧ Hid (x = fl + dir * j) ∧ Hid (∀ i, i < j → hitP up dn car fl dir i = false) ∧ Hid (bf = backFl up dn fl dir j ∧ bd = backDir up dn fl dir j) ∧
    Hid (Bx wr w.heap.size #[.slice U n cu, .slice D n cd, .slice C n cc]) ∧ Hid (Bx wr (w.heap.size + 1) #[.int .i64 0, .int .i64 0]) ∧ Hid (Bx wr w1.heap.size #[.int .i64 bf, .int .i64 bd]) ∧ Hid (Below w.heap.size w wr)) (fun s8 _ => if 0 < dir then ((n : Int) - intOf s8).toNat else (intOf s8 + 1).toNat)
  case atStart => exact ⟨0, fl, -1, 0, rfl, by omega, by omega, Lib.hid (Nat.zero_le _), Lib.hid (by simp), Lib.hid (fun i hi => absurd hi (by omega)), Lib.hid (by have := @back_zero up dn fl dir; omega), HX1, HY1, HZ1, HB1⟩
  case round =>
    obtain ⟨j, x, bf, bd, rfl, hx1, hx2, HJ, HE, HN, HF, HX, HY, HZ, HB⟩ := hrel
    have c0 := HX.out.cells
    go_wp2_with fail
    refine (isFloor_any x n _).mono ?_
    rintro e w2 ⟨rfl, rfl⟩
    cases hi : inB x 0 ((n : Int) - 1)
    · have HW : Hid (j = ways n fl dir) := Lib.hid (ways_end HD.out h0 h1 HJ.out HE.out (by have := inB_no.1 hi; omega))
      have HT := Lib.hid (toward_end (n := n) (by rw [← HW.out]; exact HN.out))
      have HT1 : Hid (towardFl n up dn car fl dir = bf ∧ towardDir n up dn car fl dir = bd) := Lib.hid (by
        rw [HT.out.1, HT.out.2, HF.out.1, HF.out.2, HW.out]; exact ⟨rfl, rfl⟩)
      have c1 := HY.out.cells
      have z1 := HY.out.free
      have c2 := HZ.out.cells
      go_wp2
      refine bodyPost_ret (v := .agg #[.int .i64 bf, .int .i64 bd]) (by simp [results, Tryz.results129, go_sem, c1]) rfl ⟨by rw [HT1.out.1, HT1.out.2], ?_⟩
      repeat (refine below_set (by simp <;> omega) ?_)
      exact HB.out
    · obtain ⟨i1, i2⟩ := inB_iff.1 hi
      obtain ⟨k, rfl⟩ : ∃ k : Nat, x = (k : Int) := ⟨x.toNat, by omega⟩
      have hk : k < n := by omega
      obtain ⟨e1, e2, e3, e4⟩ := round_facts (up := up) (dn := dn) (car := car) HD.out h0 HE.out hk
      have E1 := Lib.hid e1
      have E2 := Lib.hid e2
      have E3 := Lib.hid e3
      have E4 := Lib.hid e4
      clear e1 e2 e3 e4
      obtain ⟨b3, o3, rfl, _, g3⟩ := HC.out.below (HB.out.mono hB) (by omega)
      have c3 := g3 k hk
      clear g3
      cases hcar : car k
      · go_wp2_with fail
        refine (callToGo_any (up := up) (dn := dn) (car := car) hk hn (Nat.le_trans hB HB.out.size) (HU.out.below (HB.out.mono hB)) (HDN.out.below (HB.out.mono hB))).mono ?_
        rintro e w3 ⟨rfl, hb3⟩
        have HX3 := Lib.hid (HX.out.below hb3 HX.out.lt)
        have HY3 := Lib.hid (HY.out.below hb3 HY.out.lt)
        have HZ3 := Lib.hid (HZ.out.below hb3 HZ.out.lt)
        have HB3 := Lib.hid (HB.out.trans (hb3.mono HB.out.size))
        clear hb3 HX HY HZ HB c0 c3
        have c0 := HX3.out.cells
        cases hgo : callGo up dn k dir
        · have HHit : Hid (hitP up dn car fl dir j = false) := Lib.hid (by rw [E3.out, hcar, hgo]; rfl)
          clear hcar
          go_wp2_with fail
          refine (callToGo_any (up := up) (dn := dn) (car := car) hk hn (Nat.le_trans hB HB3.out.size) (HU.out.below (HB3.out.mono hB)) (HDN.out.below (HB3.out.mono hB))).mono ?_
          rintro e w4 ⟨rfl, hb4⟩
          have HX4 := Lib.hid (HX3.out.below hb4 HX3.out.lt)
          have HY4 := Lib.hid (HY3.out.below hb4 HY3.out.lt)
          have HZ4 := Lib.hid (HZ3.out.below hb4 HZ3.out.lt)
          have HB4 := Lib.hid (HB3.out.trans (hb4.mono HB3.out.size))
          clear hb4 HX3 HY3 HZ3 HB3 c0 hgo
          have HE5 := Lib.hid (pos_succ HE.out)
          have HN5 := Lib.hid (none_succ HN.out HHit.out)
          have HJ5 : Hid (j + 1 ≤ ways n fl dir) := Lib.hid E2.out
          have c2 := HZ4.out.cells
          have z2 := HZ4.out.free
          cases hback : callGo up dn k (-dir)
          · have hb5 := back_not (by rw [E4.out]; exact hback)
            have HF5 : Hid (bf = backFl up dn fl dir (j + 1) ∧ bd = backDir up dn fl dir (j + 1)) := Lib.hid (by rw [hb5.1, hb5.2]; exact HF.out)
            clear hb5 hback
            go_wp2
            go_roundw
            case rel => exact ⟨j + 1, (k : Int) + dir, bf, bd, rfl, by omega, by omega, HJ5, HE5, HN5, HF5, HX4, HY4, HZ4, HB4⟩
            case measure => simp [intOf]; rcases HD.out with rfl | rfl <;> simp <;> omega
          · have hb5 := back_yes (by rw [E4.out]; exact hback)
            rw [E1.out] at hb5
            have HF5 : Hid ((k : Int) = backFl up dn fl dir (j + 1) ∧ -dir = backDir up dn fl dir (j + 1)) := Lib.hid ⟨hb5.1.symm, hb5.2.symm⟩
            clear hb5 hback
            go_wp2
            go_roundw
            case rel => exact ⟨j + 1, (k : Int) + dir, (k : Int), -dir, rfl, by omega, by omega, HJ5, HE5, HN5, HF5, Lib.hid ((HX4.out.far _ _ (by simp; omega)).far _ _ (by simp; omega)), Lib.hid ((HY4.out.far _ _ (by simp; omega)).far _ _ (by simp; omega)), Lib.hid ((HZ4.out.set 0 _).set 1 _), Lib.hid ((HB4.out.setCell (by simp; omega) _).setCell (by simp; omega) _)⟩
            case measure => simp [intOf]; rcases HD.out with rfl | rfl <;> simp <;> omega
        · have HT := Lib.hid (toward_hit HN.out (by rw [E3.out, hgo, Bool.or_true]) E2.out)
          have HT1 : Hid (towardFl n up dn car fl dir = (k : Int) ∧ towardDir n up dn car fl dir = dir) := Lib.hid (by rw [HT.out.1, HT.out.2, E1.out]; exact ⟨rfl, rfl⟩)
          clear hcar hgo
          have c1 := HY3.out.cells
          have z1 := HY3.out.free
          go_wp2
          refine bodyPost_ret (v := .agg #[.int .i64 k, .int .i64 dir]) (by simp [results, Tryz.results129, go_sem, c1]) rfl ⟨by rw [HT1.out.1, HT1.out.2], ?_⟩
          repeat (refine below_set (by simp <;> omega) ?_)
          exact HB3.out
      · have HT := Lib.hid (toward_hit HN.out (by rw [E3.out, hcar, Bool.true_or]) E2.out)
        have HT1 : Hid (towardFl n up dn car fl dir = (k : Int) ∧ towardDir n up dn car fl dir = dir) := Lib.hid (by rw [HT.out.1, HT.out.2, E1.out]; exact ⟨rfl, rfl⟩)
        have c1 := HY.out.cells
        have z1 := HY.out.free
        go_wp2
        refine bodyPost_ret (v := .agg #[.int .i64 k, .int .i64 dir]) (by simp [results, Tryz.results129, go_sem, c1]) rfl ⟨by rw [HT1.out.1, HT1.out.2], ?_⟩
        repeat (refine below_set (by simp <;> omega) ?_)
        exact HB.out
end Go.Proofs.YthkpikkjgggimaaGreatDoor
