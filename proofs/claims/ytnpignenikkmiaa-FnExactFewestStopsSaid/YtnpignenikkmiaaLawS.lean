/-
  The laws FnExactStopsValid, FnExactPartsValid, FnExactLongestGap, FnExactServiceOk: the walks. No claim stands here.
-/
import Derived.Test.YtnpignenikkmiaaServe
namespace Go.Proofs.Ytnpignenikkmiaa
open Go.RowKit
set_option linter.unusedVariables false
set_option linter.unusedSimpArgs false

theorem law_ExactStopsValid {w : World} {A : Option Addr} {n c : Nat} {f : Nat → Int} (hs : Ints w w.heap.size A n f) :
    Calls Try.prog 3 #[.slice A n c] w fun e w' => e = .returned (.bool true) ∧ Below w.heap.size w w' := by
  by_cases h20 : n ≤ 1048576
  · have hn : n ≤ 9223372036854775806 := by omega
    have E := eqB_refl f n
    go_enter Try.func3, Try.ntmps3
    go_wp2_with fail
    refine (toIntS_any (by omega) (Nat.le_refl _) hs).mono ?_; rintro e w1 ⟨A1, c1, rfl, hr1, hb1⟩
    go_wp2_with fail
    refine (spec_StopsValid hn hr1.ints).mono ?_; rintro e w2 ⟨rfl, j2, rfl⟩
    have hb2 := below_drewN hb1 j2
    generalize w1.drewN j2 = w2 at *
    go_wp2_with fail
    refine (toIntS_any (by omega) hb2.size (hs.below hb2)).mono ?_; rintro e w3 ⟨A3, c3, rfl, hr3, hb3⟩
    have hb03 := hb2.trans (hb3.mono hb2.size)
    go_wp2_with fail
    refine (impl_StopsValid hn hr3.ints).mono ?_; rintro e w4 ⟨rfl, rfl⟩
    go_wp2_with fail
    refine (toIntS_any (by omega) hb03.size (hs.below hb03)).mono ?_; rintro e w5 ⟨A5, c5, rfl, hr5, hb5⟩
    go_wp2_with fail
    refine (eqIntS_any hn (hr3.below hb5 (Nat.le_refl _)).ints hr5.ints).mono ?_; rintro e w6 ⟨rfl, j6, rfl⟩
    go_wp2
    go_ret
    exact ⟨rfl, below_drewN (hb03.trans (hb5.mono hb03.size)) j6⟩
  · go_enter Try.func3, Try.ntmps3
    go_wp2
    go_ret
    exact ⟨rfl, Below.refl _ _⟩
theorem law_ExactPartsValid {w : World} {A : Option Addr} {n c : Nat} {f : Nat → Int} (hs : Ints w w.heap.size A n f) :
    Calls Try.prog 4 #[.slice A n c] w fun e w' => e = .returned (.bool true) ∧ Below w.heap.size w w' := by
  by_cases h20 : n ≤ 1048576
  · have hn : n ≤ 9223372036854775806 := by omega
    have E := eqB_refl f n
    go_enter Try.func4, Try.ntmps4
    go_wp2_with fail
    refine (toIntS_any (by omega) (Nat.le_refl _) hs).mono ?_; rintro e w1 ⟨A1, c1, rfl, hr1, hb1⟩
    go_wp2_with fail
    refine (spec_PartsValid hn hr1.ints).mono ?_; rintro e w2 ⟨rfl, j2, rfl⟩
    have hb2 := below_drewN hb1 j2
    generalize w1.drewN j2 = w2 at *
    go_wp2_with fail
    refine (toIntS_any (by omega) hb2.size (hs.below hb2)).mono ?_; rintro e w3 ⟨A3, c3, rfl, hr3, hb3⟩
    have hb03 := hb2.trans (hb3.mono hb2.size)
    go_wp2_with fail
    refine (impl_PartsValid hn hr3.ints).mono ?_; rintro e w4 ⟨rfl, rfl⟩
    go_wp2_with fail
    refine (toIntS_any (by omega) hb03.size (hs.below hb03)).mono ?_; rintro e w5 ⟨A5, c5, rfl, hr5, hb5⟩
    go_wp2_with fail
    refine (eqIntS_any hn (hr3.below hb5 (Nat.le_refl _)).ints hr5.ints).mono ?_; rintro e w6 ⟨rfl, j6, rfl⟩
    go_wp2
    go_ret
    exact ⟨rfl, below_drewN (hb03.trans (hb5.mono hb03.size)) j6⟩
  · go_enter Try.func4, Try.ntmps4
    go_wp2
    go_ret
    exact ⟨rfl, Below.refl _ _⟩

theorem law_ExactLongestGap {w : World} {A : Option Addr} {n c : Nat} {f : Nat → Int} (t : Int) (hs : Ints w w.heap.size A n f) :
    Calls Try.prog 5 #[.int .i64 t, .slice A n c] w fun e w' => e = .returned (.bool true) ∧ Below w.heap.size w w' := by
  by_cases h20 : n ≤ 1048576
  · have hn : n ≤ 9223372036854775806 := by omega
    have E := eqB_refl f n
    go_enter Try.func5, Try.ntmps5
    go_wp2_with fail
    refine (toIntS_any (by omega) (Nat.le_refl _) hs).mono ?_; rintro e w1 ⟨A1, c1, rfl, hr1, hb1⟩
    go_wp2_with fail
    refine (spec_LongestGap t hn hr1.ints).mono ?_; rintro e w2 ⟨rfl, j2, rfl⟩
    have hb2 := below_drewN hb1 j2
    generalize w1.drewN j2 = w2 at *
    go_wp2_with fail
    refine (toIntS_any (by omega) hb2.size (hs.below hb2)).mono ?_; rintro e w3 ⟨A3, c3, rfl, hr3, hb3⟩
    have hb03 := hb2.trans (hb3.mono hb2.size)
    go_wp2_with fail
    refine (impl_LongestGap t hn hr3.ints).mono ?_; rintro e w4 ⟨rfl, rfl⟩
    go_wp2_with fail
    refine (toIntS_any (by omega) hb03.size (hs.below hb03)).mono ?_; rintro e w5 ⟨A5, c5, rfl, hr5, hb5⟩
    go_wp2_with fail
    refine (eqIntS_any hn (hr3.below hb5 (Nat.le_refl _)).ints hr5.ints).mono ?_; rintro e w6 ⟨rfl, j6, rfl⟩
    go_wp2
    go_ret
    exact ⟨rfl, below_drewN (hb03.trans (hb5.mono hb03.size)) j6⟩
  · go_enter Try.func5, Try.ntmps5
    go_wp2
    go_ret
    exact ⟨rfl, Below.refl _ _⟩

theorem law_ExactServiceOk {w : World} {A A' : Option Addr} {m n c c' : Nat} {l f : Nat → Int} (t : Int) (hl : Ints w w.heap.size A m l) (hs : Ints w w.heap.size A' n f) :
    Calls Try.prog 9 #[.int .i64 t, .slice A m c, .slice A' n c'] w fun e w' => e = .returned (.bool true) ∧ Below w.heap.size w w' := by
  by_cases h20 : m ≤ 1048576
  · by_cases h21 : n ≤ 1048576
    · have hn : n ≤ 9223372036854775806 := by omega
      have hm : m ≤ 9223372036854775806 := by omega
      have E := eqB_refl f n
      have E' := eqB_refl l m
      go_enter Try.func9, Try.ntmps9
      go_wp2_with fail
      refine (toIntS_any (by omega) (Nat.le_refl _) hl).mono ?_; rintro e w1 ⟨A1, c1, rfl, hr1, hb1⟩
      go_wp2_with fail
      refine (toIntS_any (by omega) hb1.size (hs.below hb1)).mono ?_; rintro e w2 ⟨A2, c2, rfl, hr2, hb2'⟩
      have hb2 := hb1.trans (hb2'.mono hb1.size)
      go_wp2_with fail
      refine (spec_ServiceOk t hm (hr1.below hb2' (Nat.le_refl _)).ints hn hr2.ints).mono ?_; rintro e w3 ⟨rfl, j3, rfl⟩
      have hb3 := below_drewN hb2 j3
      clear hr1 hr2 hb1 hb2 hb2'
      generalize w2.drewN j3 = w3 at *
      go_wp2_with fail
      refine (toIntS_any (by omega) hb3.size (hl.below hb3)).mono ?_; rintro e w4 ⟨A4, c4, rfl, hr4, hb4'⟩
      have hb4 := hb3.trans (hb4'.mono hb3.size)
      go_wp2_with fail
      refine (toIntS_any (by omega) hb4.size (hs.below hb4)).mono ?_; rintro e w5 ⟨A5, c5, rfl, hr5, hb5'⟩
      have hb5 := hb4.trans (hb5'.mono hb4.size)
      have hr45 := hr4.below hb5' (Nat.le_refl _)
      go_wp2_with fail
      refine (impl_ServiceOk t hm hr45.ints hn hr5.ints).mono ?_; rintro e w6 ⟨rfl, rfl⟩
      clear hr4 hb4' hb5' hb4 hb3
      go_wp2_with fail
      refine (toIntS_any (by omega) hb5.size (hl.below hb5)).mono ?_; rintro e w7 ⟨A7, c7, rfl, hr7, hb7'⟩
      have hb7 := hb5.trans (hb7'.mono hb5.size)
      go_wp2_with fail
      refine (eqIntS_any hm (hr45.below hb7' (Nat.le_refl _)).ints hr7.ints).mono ?_; rintro e w8 ⟨rfl, j8, rfl⟩
      have hb8 := below_drewN hb7 j8
      have hr58 := (hr5.below hb7' (Nat.le_refl _)).drewN j8
      clear hr45 hr7 hb7 hb7' hb5 hr5
      generalize w7.drewN j8 = w8 at *
      go_wp2_with fail
      refine (toIntS_any (by omega) hb8.size (hs.below hb8)).mono ?_; rintro e w9 ⟨A9, c9, rfl, hr9, hb9'⟩
      go_wp2_with fail
      refine (eqIntS_any hn (hr58.below hb9' (Nat.le_refl _)).ints hr9.ints).mono ?_; rintro e w10 ⟨rfl, j10, rfl⟩
      go_wp2
      go_ret
      exact ⟨rfl, below_drewN (hb8.trans (hb9'.mono hb8.size)) j10⟩
    · go_enter Try.func9, Try.ntmps9
      go_wp2
      go_ret
      exact ⟨rfl, Below.refl _ _⟩
  · go_enter Try.func9, Try.ntmps9
    go_wp2
    go_ret
    exact ⟨rfl, Below.refl _ _⟩

set_option maxHeartbeats 800000 in
theorem law_ExactFewestStops {w : World} {A : Option Addr} {m c : Nat} {l : Nat → Int} (t : Int) (hl : Ints w w.heap.size A m l) :
    Calls Try.prog 8 #[.int .i64 t, .slice A m c] w fun e w' => e = .returned (.bool true) ∧ Below w.heap.size w w' := by
  by_cases h20 : m ≤ 1048576
  · have hm : m ≤ 9223372036854775806 := by omega
    have E1 := eqB_refl l m
    have hN : fewN t l m ≤ 39 := by
      cases h : fewOk t l m
      · rw [fewN_no h]; omega
      · obtain ⟨⟨t1, t2⟩, hp, h0⟩ := fewOk_iff.1 h
        rw [fewN_yes h]
        exact cntM_le t2 (fewM_bound hp h0).1
    generalize hNe : fewN t l m = N at *
    generalize hMe : mulM (fewM l m) = g at *
    have HN := Lib.hid hNe
    have HM := Lib.hid hMe
    clear hNe hMe
    have E2 := eqB_refl g N
    have E3 := heldI_marked N 1
    go_enter Try.func8, Try.ntmps8
    go_wp2_with fail
    refine (toIntS_any (by omega) (Nat.le_refl _) hl).mono ?_; rintro e w1 ⟨A1, c1, rfl, hr1, hb1⟩
    go_wp2_with fail
    refine (spec_FewestStops t hm (Nat.le_refl _) hr1.ints).mono ?_; rintro e w2 ⟨A2, c2, rfl, hW, hb2'⟩
    rw [HN.out, HM.out] at hW; rw [HN.out]
    have hb2 := hb1.trans (hb2'.mono hb1.size)
    have hWi := hW.ints
    clear hr1 hW hb2' hb1
    go_wp2_with fail
    refine (toIntS_any (by omega) hb2.size (hl.below hb2)).mono ?_; rintro e w3 ⟨A3, c3, rfl, hX, hb3'⟩
    have hb3 := hb2.trans (hb3'.mono hb2.size)
    have FX := Lib.hid hX.lies
    have s23 := hb3'.size
    have s02 := hb2.size
    have hWi3 := hWi.below hb3'
    clear hb2 hb3' hWi
    go_wp2_with fail
    refine (impl_FewestStops t hm (Nat.le_refl _) hX.ints).mono ?_; rintro e w4 ⟨A4, c4, rfl, hG, hb4'⟩
    rw [HN.out, HM.out] at hG; rw [HN.out]
    have hb4 := hb3.trans (hb4'.mono hb3.size)
    have FG := Lib.hid hG.lies
    have hX4 := hX.below hb4' (Nat.le_refl _)
    have s34 := hb4'.size
    have hWi4 := hWi3.below (hb4'.mono s23)
    clear hb3 hb4' hWi3 hX
    go_wp2_with fail
    refine (eqIntS_any (by omega) hG.ints hWi4).mono ?_; rintro e w5 ⟨rfl, j5, rfl⟩
    have hb5 := below_drewN hb4 j5
    have hX5 := hX4.drewN j5
    have hG5 := hG.drewN j5
    have hWi5 := hWi4.drewN j5
    have s45 : w4.heap.size ≤ (w4.drewN j5).heap.size := Nat.le_refl _
    clear hb4 hX4 hG hWi4
    generalize w4.drewN j5 = w5 at *
    go_wp2_with fail
    refine (toIntS_any (by omega) hb5.size (hl.below hb5)).mono ?_; rintro e w6 ⟨A6, c6, rfl, hT, hb6'⟩
    have hb6 := hb5.trans (hb6'.mono hb5.size)
    have hX6 := hX5.below hb6' (Nat.le_refl _)
    have hG6 := hG5.below hb6' (Nat.le_refl _)
    have s56 := hb6'.size
    have hWi6 := hWi5.below (hb6'.mono (by omega))
    clear hb5 hb6' hX5 hG5 hWi5
    go_wp2_with fail
    refine (eqIntS_any (by omega) hX6.ints hT.ints).mono ?_; rintro e w7 ⟨rfl, j7, rfl⟩
    have hb7 := below_drewN hb6 j7
    have hX7 := hX6.drewN j7
    have hG7 := hG6.drewN j7
    have hWi7 := hWi6.drewN j7
    have s67 : w6.heap.size ≤ (w6.drewN j7).heap.size := Nat.le_refl _
    clear hb6 hX6 hG6 hWi6 hT
    generalize w6.drewN j7 = w7 at *
    go_wp2_with fail
    refine (markIntS_any 1 (by omega) (by omega) hX7).mono ?_; rintro e w8 ⟨rfl, hX8, hwr8⟩
    have hb8 := Wrote.below hb7 hwr8 hb7.size (fun h b e => by have := FX.out h b e; have := hb7.size; omega)
    have hG8 := hG7.wrote hwr8 (fun h b e => by have := FX.out h b e; omega)
    have hWi8 := hWi7.wrote hwr8 (by omega) (fun h b e => by have := FX.out h b e; omega)
    have s78 := hwr8.size
    clear hb7 hG7 hWi7 hX7 hX8 hwr8
    go_wp2_with fail
    refine (eqIntS_any (by omega) hG8.ints hWi8).mono ?_; rintro e w9 ⟨rfl, j9, rfl⟩
    have hb9 := below_drewN hb8 j9
    have hG9 := hG8.drewN j9
    have hWi9 := hWi8.drewN j9
    have s89 : w8.heap.size ≤ (w8.drewN j9).heap.size := Nat.le_refl _
    clear hb8 hG8 hWi8
    generalize w8.drewN j9 = w9 at *
    go_wp2_with fail
    refine (markIntS_any 1 (by omega) (by omega) hG9).mono ?_; rintro e w10 ⟨rfl, hG10, hwr10⟩
    have hb10 := Wrote.below hb9 hwr10 hb9.size (fun h b e => by have := FG.out h b e; omega)
    have hWi10 := hWi9.wrote hwr10 (by omega) (fun h b e => by have := FG.out h b e; omega)
    have s910 := hwr10.size
    clear hb9 hG9 hWi9 hwr10
    go_wp2_with fail
    refine (heldIntS_any 1 (by omega) (by omega) (by omega) hG10.ints).mono ?_; rintro e w11 ⟨rfl, rfl⟩
    rw [E3]
    go_wp2_with fail
    refine (toIntS_any (by omega) hb10.size (hl.below hb10)).mono ?_; rintro e w12 ⟨A12, c12, rfl, hY, hb12'⟩
    have hb12 := hb10.trans (hb12'.mono hb10.size)
    have hG12 := hG10.below hb12' (Nat.le_refl _)
    have hWi12 := hWi10.below (hb12'.mono (by omega))
    have s12 := hb12'.size
    clear hb10 hb12' hG10 hWi10
    go_wp2_with fail
    refine (impl_FewestStops t hm (Nat.le_refl _) hY.ints).mono ?_; rintro e w13 ⟨A13, c13, rfl, hH, hb13'⟩
    rw [HN.out, HM.out] at hH; rw [HN.out]
    have hb13 := hb12.trans (hb13'.mono hb12.size)
    have hG13 := hG12.below hb13' (Nat.le_refl _)
    have hWi13 := hWi12.below (hb13'.mono (by omega))
    clear hb12 hb13' hG12 hWi12 hY
    go_wp2_with fail
    refine (eqIntS_any (by omega) hH.ints hWi13).mono ?_; rintro e w14 ⟨rfl, j14, rfl⟩
    have hG14 := hG13.drewN j14
    have hb14 := below_drewN hb13 j14
    generalize w13.drewN j14 = w14 at *
    go_wp2_with fail
    refine (heldIntS_any 1 (by omega) (by omega) (by omega) hG14.ints).mono ?_; rintro e w15 ⟨rfl, rfl⟩
    rw [E3]
    go_wp2
    go_ret
    exact ⟨rfl, hb14⟩
  · go_enter Try.func8, Try.ntmps8
    go_wp2
    go_ret
    exact ⟨rfl, Below.refl _ _⟩
end Go.Proofs.Ytnpignenikkmiaa
