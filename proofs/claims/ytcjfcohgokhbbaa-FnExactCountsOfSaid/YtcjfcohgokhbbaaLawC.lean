/-
  The laws FnExactCountsOf, FnExactCountsAll, FnExactPercentile, FnExactCountsJoin: the walks. No claim stands here.
-/
import Derived.Test.YtcjfcohgokhbbaaCountOf
namespace Go.Proofs.Ytcjfcohgokhbbaa
open Go.RowKit
set_option linter.unusedVariables false
set_option linter.unusedSimpArgs false


theorem law_ExactCountsAll {w : World} {A : Option Addr} {n c : Nat} {f : Nat → Int} (hs : Ints w w.heap.size A n f) :
    Calls Try.prog 4 #[.slice A n c] w fun e w' => e = .returned (.bool true) ∧ Below w.heap.size w w' := by
  by_cases h20 : n ≤ 1048576
  · have hn : n ≤ 9223372036854775806 := by omega
    have E := eqB_refl f n
    go_enter Try.func4, Try.ntmps4
    go_wp2_with fail
    refine (toIntS_any (by omega) (Nat.le_refl _) hs).mono ?_; rintro e w1 ⟨A1, c1, rfl, hr1, hb1⟩
    go_wp2_with fail
    refine (spec_CountsAll hn hr1.ints).mono ?_; rintro e w2 ⟨rfl, rfl⟩
    go_wp2_with fail
    refine (toIntS_any (by omega) hb1.size (hs.below hb1)).mono ?_; rintro e w3 ⟨A3, c3, rfl, hr3, hb3⟩
    have hb03 := hb1.trans (hb3.mono hb1.size)
    go_wp2_with fail
    refine (impl_CountsAll hn hr3.ints).mono ?_; rintro e w4 ⟨rfl, rfl⟩
    go_wp2_with fail
    refine (toIntS_any (by omega) hb03.size (hs.below hb03)).mono ?_; rintro e w5 ⟨A5, c5, rfl, hr5, hb5⟩
    go_wp2_with fail
    refine (eqIntS_any hn (hr3.below hb5 (Nat.le_refl _)).ints hr5.ints).mono ?_; rintro e w6 ⟨rfl, j6, rfl⟩
    go_wp2
    go_ret
    exact ⟨rfl, below_drewN (hb03.trans (hb5.mono hb03.size)) j6⟩
  · go_enter Try.func4, Try.ntmps4
    go_wp2
    go_ret
    exact ⟨rfl, Below.refl _ _⟩

theorem law_ExactPercentile {w : World} {A : Option Addr} {n c : Nat} {f : Nat → Int} (pc : Int) (hs : Ints w w.heap.size A n f) :
    Calls Try.prog 6 #[.slice A n c, .int .i64 pc] w fun e w' => e = .returned (.bool true) ∧ Below w.heap.size w w' := by
  by_cases h20 : n ≤ 1048576
  · have hn : n ≤ 9223372036854775806 := by omega
    have E := eqB_refl f n
    go_enter Try.func6, Try.ntmps6
    go_wp2_with fail
    refine (toIntS_any (by omega) (Nat.le_refl _) hs).mono ?_; rintro e w1 ⟨A1, c1, rfl, hr1, hb1⟩
    go_wp2_with fail
    refine (spec_Percentile pc hn hr1.ints).mono ?_; rintro e w2 ⟨rfl, rfl⟩
    go_wp2_with fail
    refine (toIntS_any (by omega) hb1.size (hs.below hb1)).mono ?_; rintro e w3 ⟨A3, c3, rfl, hr3, hb3⟩
    have hb03 := hb1.trans (hb3.mono hb1.size)
    go_wp2_with fail
    refine (impl_Percentile pc hn hr3.ints).mono ?_; rintro e w4 ⟨rfl, rfl⟩
    go_wp2_with fail
    refine (toIntS_any (by omega) hb03.size (hs.below hb03)).mono ?_; rintro e w5 ⟨A5, c5, rfl, hr5, hb5⟩
    go_wp2_with fail
    refine (eqIntS_any hn (hr3.below hb5 (Nat.le_refl _)).ints hr5.ints).mono ?_; rintro e w6 ⟨rfl, j6, rfl⟩
    go_wp2
    go_ret
    exact ⟨rfl, below_drewN (hb03.trans (hb5.mono hb03.size)) j6⟩
  · go_enter Try.func6, Try.ntmps6
    go_wp2
    go_ret
    exact ⟨rfl, Below.refl _ _⟩
set_option maxHeartbeats 800000 in
theorem law_ExactCountsOf {w : World} {A : Option Addr} {m c : Nat} {l : Nat → Int} (hl : Ints w w.heap.size A m l) :
    Calls Try.prog 3 #[.slice A m c] w fun e w' => e = .returned (.bool true) ∧ Below w.heap.size w w' := by
  by_cases h20 : m ≤ 1048576
  · have hm : m ≤ 9223372036854775806 := by omega
    have E1 := eqB_refl l m
    have hN : cntN l m ≤ 16 := by
      cases h : timesB l m
      · rw [cntN_no h]; omega
      · rw [cntN_yes h]; omega
    generalize hNe : cntN l m = N at *
    generalize hMe : cntOf l m = g at *
    have HN := Lib.hid hNe
    have HM := Lib.hid hMe
    clear hNe hMe
    have E2 := eqB_refl g N
    have E3 := heldI_marked N 1
    go_enter Try.func3, Try.ntmps3
    go_wp2_with fail
    refine (toIntS_any (by omega) (Nat.le_refl _) hl).mono ?_; rintro e w1 ⟨A1, c1, rfl, hr1, hb1⟩
    go_wp2_with fail
    refine (spec_CountsOf hm (Nat.le_refl _) hr1.ints).mono ?_; rintro e w2 ⟨A2, c2, rfl, hW, hb2'⟩
    rw [HN.out, HM.out] at hW; rw [HN.out]
    have hb2 := hb1.trans (hb2'.mono hb1.size)
    have hWi := hW.ints
    clear hr1 hW hb2' hb1
    go_wp2_with fail
    refine (toIntS_any (by omega) hb2.size (hl.below hb2)).mono ?_; rintro e w3 ⟨A3, c3, rfl, hX, hb3'⟩
    have hb3 := hb2.trans (hb3'.mono hb2.size)
    have FX := Lib.hid hX.lies
    have s23 := hb3'.size
    have s02 := hb2.size
    have hWi3 := hWi.below hb3'
    clear hb2 hb3' hWi
    go_wp2_with fail
    refine (impl_CountsOf hm (Nat.le_refl _) hX.ints).mono ?_; rintro e w4 ⟨A4, c4, rfl, hG, hb4'⟩
    rw [HN.out, HM.out] at hG; rw [HN.out]
    have hb4 := hb3.trans (hb4'.mono hb3.size)
    have FG := Lib.hid hG.lies
    have hX4 := hX.below hb4' (Nat.le_refl _)
    have s34 := hb4'.size
    have hWi4 := hWi3.below (hb4'.mono s23)
    clear hb3 hb4' hWi3 hX
    go_wp2_with fail
    refine (eqIntS_any (by omega) hG.ints hWi4).mono ?_; rintro e w5 ⟨rfl, j5, rfl⟩
    have hb5 := below_drewN hb4 j5
    have hX5 := hX4.drewN j5
    have hG5 := hG.drewN j5
    have hWi5 := hWi4.drewN j5
    have s45 : w4.heap.size ≤ (w4.drewN j5).heap.size := Nat.le_refl _
    clear hb4 hX4 hG hWi4
    generalize w4.drewN j5 = w5 at *
    go_wp2_with fail
    refine (toIntS_any (by omega) hb5.size (hl.below hb5)).mono ?_; rintro e w6 ⟨A6, c6, rfl, hT, hb6'⟩
    have hb6 := hb5.trans (hb6'.mono hb5.size)
    have hX6 := hX5.below hb6' (Nat.le_refl _)
    have hG6 := hG5.below hb6' (Nat.le_refl _)
    have s56 := hb6'.size
    have hWi6 := hWi5.below (hb6'.mono (by omega))
    clear hb5 hb6' hX5 hG5 hWi5
    go_wp2_with fail
    refine (eqIntS_any (by omega) hX6.ints hT.ints).mono ?_; rintro e w7 ⟨rfl, j7, rfl⟩
    have hb7 := below_drewN hb6 j7
    have hX7 := hX6.drewN j7
    have hG7 := hG6.drewN j7
    have hWi7 := hWi6.drewN j7
    have s67 : w6.heap.size ≤ (w6.drewN j7).heap.size := Nat.le_refl _
    clear hb6 hX6 hG6 hWi6 hT
    generalize w6.drewN j7 = w7 at *
    go_wp2_with fail
    refine (markIntS_any 1 (by omega) (by omega) hX7).mono ?_; rintro e w8 ⟨rfl, hX8, hwr8⟩
    have hb8 := Wrote.below hb7 hwr8 hb7.size (fun h b e => by have := FX.out h b e; have := hb7.size; omega)
    have hG8 := hG7.wrote hwr8 (fun h b e => by have := FX.out h b e; omega)
    have hWi8 := hWi7.wrote hwr8 (by omega) (fun h b e => by have := FX.out h b e; omega)
    have s78 := hwr8.size
    clear hb7 hG7 hWi7 hX7 hX8 hwr8
    go_wp2_with fail
    refine (eqIntS_any (by omega) hG8.ints hWi8).mono ?_; rintro e w9 ⟨rfl, j9, rfl⟩
    have hb9 := below_drewN hb8 j9
    have hG9 := hG8.drewN j9
    have hWi9 := hWi8.drewN j9
    have s89 : w8.heap.size ≤ (w8.drewN j9).heap.size := Nat.le_refl _
    clear hb8 hG8 hWi8
    generalize w8.drewN j9 = w9 at *
    go_wp2_with fail
    refine (markIntS_any 1 (by omega) (by omega) hG9).mono ?_; rintro e w10 ⟨rfl, hG10, hwr10⟩
    have hb10 := Wrote.below hb9 hwr10 hb9.size (fun h b e => by have := FG.out h b e; omega)
    have hWi10 := hWi9.wrote hwr10 (by omega) (fun h b e => by have := FG.out h b e; omega)
    have s910 := hwr10.size
    clear hb9 hG9 hWi9 hwr10
    go_wp2_with fail
    refine (heldIntS_any 1 (by omega) (by omega) (by omega) hG10.ints).mono ?_; rintro e w11 ⟨rfl, rfl⟩
    rw [E3]
    go_wp2_with fail
    refine (toIntS_any (by omega) hb10.size (hl.below hb10)).mono ?_; rintro e w12 ⟨A12, c12, rfl, hY, hb12'⟩
    have hb12 := hb10.trans (hb12'.mono hb10.size)
    have hG12 := hG10.below hb12' (Nat.le_refl _)
    have hWi12 := hWi10.below (hb12'.mono (by omega))
    have s12 := hb12'.size
    clear hb10 hb12' hG10 hWi10
    go_wp2_with fail
    refine (impl_CountsOf hm (Nat.le_refl _) hY.ints).mono ?_; rintro e w13 ⟨A13, c13, rfl, hH, hb13'⟩
    rw [HN.out, HM.out] at hH; rw [HN.out]
    have hb13 := hb12.trans (hb13'.mono hb12.size)
    have hG13 := hG12.below hb13' (Nat.le_refl _)
    have hWi13 := hWi12.below (hb13'.mono (by omega))
    clear hb12 hb13' hG12 hWi12 hY
    go_wp2_with fail
    refine (eqIntS_any (by omega) hH.ints hWi13).mono ?_; rintro e w14 ⟨rfl, j14, rfl⟩
    have hG14 := hG13.drewN j14
    have hb14 := below_drewN hb13 j14
    generalize w13.drewN j14 = w14 at *
    go_wp2_with fail
    refine (heldIntS_any 1 (by omega) (by omega) (by omega) hG14.ints).mono ?_; rintro e w15 ⟨rfl, rfl⟩
    rw [E3]
    go_wp2
    go_ret
    exact ⟨rfl, hb14⟩
  · go_enter Try.func3, Try.ntmps3
    go_wp2
    go_ret
    exact ⟨rfl, Below.refl _ _⟩

set_option maxHeartbeats 1600000 in
theorem law_ExactCountsJoin {w : World} {A A' : Option Addr} {n c m c' : Nat} {f l : Nat → Int} (hs : Ints w w.heap.size A n f) (hl : Ints w w.heap.size A' m l) :
    Calls Try.prog 5 #[.slice A n c, .slice A' m c'] w fun e w' => e = .returned (.bool true) ∧ Below w.heap.size w w' := by
  by_cases h20 : n ≤ 1048576
  · by_cases h21 : m ≤ 1048576
    · have hn : n ≤ 9223372036854775806 := by omega
      have hm : m ≤ 9223372036854775806 := by omega
      have E0 := eqB_refl f n
      have E1 := eqB_refl l m
      have hN : joinN f n l m ≤ 16 := by
        cases h : joinOk f n l m
        · rw [joinN_no h]; omega
        · rw [joinN_yes h]; omega
      generalize hNe : joinN f n l m = N at *
      generalize hMe : joinF f l = g at *
      generalize hOe : joinOk f n l m = ok at *
      have HN := Lib.hid hNe
      have HM := Lib.hid hMe
      have HO := Lib.hid hOe
      clear hNe hMe hOe
      have E2 := eqB_refl g N
      have E3 := heldI_marked N 1
      go_enter Try.func5, Try.ntmps5
      go_wp2_with fail
      refine (toIntS_any (by omega) (Nat.le_refl _) hs).mono ?_; rintro e w1 ⟨A1, c1, rfl, hr1, hb1⟩
      go_wp2_with fail
      refine (toIntS_any (by omega) hb1.size (hl.below hb1)).mono ?_; rintro e w2 ⟨A2, c2, rfl, hr2, hb2'⟩
      have hb2 := hb1.trans (hb2'.mono hb1.size)
      have hr12 := hr1.below hb2' (Nat.le_refl _)
      clear hr1 hb1 hb2'
      go_wp2_with fail
      refine (spec_CountsJoin hn hm (Nat.le_refl _) (Nat.le_refl _) hr12.ints hr2.ints).mono ?_; rintro e w3 ⟨A3, c3, rfl, hW, hb3'⟩
      rw [HN.out, HM.out] at hW; rw [HN.out, HO.out]
      have hb3 := hb2.trans (hb3'.mono hb2.size)
      have hWi := hW.ints
      clear hr12 hr2 hW hb3' hb2
      go_wp2_with fail
      refine (toIntS_any (by omega) hb3.size (hs.below hb3)).mono ?_; rintro e w4 ⟨A4, c4, rfl, hX, hb4'⟩
      have hb4 := hb3.trans (hb4'.mono hb3.size)
      have FX := Lib.hid hX.lies
      have s34 := hb4'.size
      have s03 := hb3.size
      have hWi4 := hWi.below hb4'
      clear hb3 hb4' hWi
      go_wp2_with fail
      refine (toIntS_any (by omega) hb4.size (hl.below hb4)).mono ?_; rintro e w5 ⟨A5, c5, rfl, hY, hb5'⟩
      have hb5 := hb4.trans (hb5'.mono hb4.size)
      have FY := Lib.hid hY.lies
      have hX5 := hX.below hb5' (Nat.le_refl _)
      have s45 := hb5'.size
      have hWi5 := hWi4.below (hb5'.mono s34)
      clear hb4 hb5' hX hWi4
      go_wp2_with fail
      refine (impl_CountsJoin hn hm (Nat.le_refl _) (Nat.le_refl _) hX5.ints hY.ints).mono ?_; rintro e w6 ⟨A6, c6, rfl, hG, hb6'⟩
      rw [HN.out, HM.out] at hG; rw [HN.out, HO.out]
      have hb6 := hb5.trans (hb6'.mono hb5.size)
      have FG := Lib.hid hG.lies
      have hX6 := hX5.below hb6' (Nat.le_refl _)
      have hY6 := hY.below hb6' (Nat.le_refl _)
      have s56 := hb6'.size
      have hWi6 := hWi5.below (hb6'.mono (by omega))
      clear hb5 hb6' hX5 hY hWi5
      go_wp2_with fail
      refine (eqIntS_any (by omega) hG.ints hWi6).mono ?_; rintro e w7 ⟨rfl, j7, rfl⟩
      have hb7 := below_drewN hb6 j7
      have hX7 := hX6.drewN j7
      have hY7 := hY6.drewN j7
      have hG7 := hG.drewN j7
      have hWi7 := hWi6.drewN j7
      have s67 : w6.heap.size ≤ (w6.drewN j7).heap.size := Nat.le_refl _
      clear hb6 hX6 hY6 hG hWi6
      generalize w6.drewN j7 = w7 at *
      go_wp2_with fail
      refine (toIntS_any (by omega) hb7.size (hs.below hb7)).mono ?_; rintro e w8 ⟨A8, c8, rfl, hT, hb8'⟩
      have hb8 := hb7.trans (hb8'.mono hb7.size)
      have hX8 := hX7.below hb8' (Nat.le_refl _)
      have hY8 := hY7.below hb8' (Nat.le_refl _)
      have hG8 := hG7.below hb8' (Nat.le_refl _)
      have s78 := hb8'.size
      have hWi8 := hWi7.below (hb8'.mono (by omega))
      clear hb7 hb8' hX7 hY7 hG7 hWi7
      go_wp2_with fail
      refine (eqIntS_any (by omega) hX8.ints hT.ints).mono ?_; rintro e w9 ⟨rfl, j9, rfl⟩
      have hb9 := below_drewN hb8 j9
      have hX9 := hX8.drewN j9
      have hY9 := hY8.drewN j9
      have hG9 := hG8.drewN j9
      have hWi9 := hWi8.drewN j9
      have s89 : w8.heap.size ≤ (w8.drewN j9).heap.size := Nat.le_refl _
      clear hb8 hX8 hY8 hG8 hWi8 hT
      generalize w8.drewN j9 = w9 at *
      go_wp2_with fail
      refine (toIntS_any (by omega) hb9.size (hl.below hb9)).mono ?_; rintro e w10 ⟨A10, c10, rfl, hT, hb10'⟩
      have hb10 := hb9.trans (hb10'.mono hb9.size)
      have hX10 := hX9.below hb10' (Nat.le_refl _)
      have hY10 := hY9.below hb10' (Nat.le_refl _)
      have hG10 := hG9.below hb10' (Nat.le_refl _)
      have s910 := hb10'.size
      have hWi10 := hWi9.below (hb10'.mono (by omega))
      clear hb9 hb10' hX9 hY9 hG9 hWi9
      go_wp2_with fail
      refine (eqIntS_any (by omega) hY10.ints hT.ints).mono ?_; rintro e w11 ⟨rfl, j11, rfl⟩
      have hb11 := below_drewN hb10 j11
      have hX11 := hX10.drewN j11
      have hY11 := hY10.drewN j11
      have hG11 := hG10.drewN j11
      have hWi11 := hWi10.drewN j11
      have s1011 : w10.heap.size ≤ (w10.drewN j11).heap.size := Nat.le_refl _
      clear hb10 hX10 hY10 hG10 hWi10 hT
      generalize w10.drewN j11 = w11 at *
      go_wp2_with fail
      refine (markIntS_any 1 (by omega) (by omega) hX11).mono ?_; rintro e w12 ⟨rfl, hX12, hwr12⟩
      have hb12 := Wrote.below hb11 hwr12 hb11.size (fun h b e => by have := FX.out h b e; omega)
      have hY12 := hY11.wrote hwr12 (fun h b e => by have := FX.out h b e; omega)
      have hG12 := hG11.wrote hwr12 (fun h b e => by have := FX.out h b e; omega)
      have hWi12 := hWi11.wrote hwr12 (by omega) (fun h b e => by have := FX.out h b e; omega)
      have s1112 := hwr12.size
      clear hb11 hY11 hG11 hWi11 hX11 hX12 hwr12
      go_wp2_with fail
      refine (markIntS_any (1 + n) (by omega) (by omega) hY12).mono ?_; rintro e w13 ⟨rfl, hY13, hwr13⟩
      have hb13 := Wrote.below hb12 hwr13 hb12.size (fun h b e => by have := FY.out h b e; omega)
      have hG13 := hG12.wrote hwr13 (fun h b e => by have := FY.out h b e; omega)
      have hWi13 := hWi12.wrote hwr13 (by omega) (fun h b e => by have := FY.out h b e; omega)
      have s1213 := hwr13.size
      clear hb12 hG12 hWi12 hY12 hY13 hwr13
      go_wp2_with fail
      refine (eqIntS_any (by omega) hG13.ints hWi13).mono ?_; rintro e w14 ⟨rfl, j14, rfl⟩
      have hb14 := below_drewN hb13 j14
      have hG14 := hG13.drewN j14
      have hWi14 := hWi13.drewN j14
      have s1314 : w13.heap.size ≤ (w13.drewN j14).heap.size := Nat.le_refl _
      clear hb13 hG13 hWi13
      generalize w13.drewN j14 = w14 at *
      go_wp2_with fail
      refine (markIntS_any 1 (by omega) (by omega) hG14).mono ?_; rintro e w15 ⟨rfl, hG15, hwr15⟩
      have hb15 := Wrote.below hb14 hwr15 hb14.size (fun h b e => by have := FG.out h b e; omega)
      have hWi15 := hWi14.wrote hwr15 (by omega) (fun h b e => by have := FG.out h b e; omega)
      have s1415 := hwr15.size
      clear hb14 hG14 hWi14 hwr15
      go_wp2_with fail
      refine (heldIntS_any 1 (by omega) (by omega) (by omega) hG15.ints).mono ?_; rintro e w16 ⟨rfl, rfl⟩
      rw [E3]
      go_wp2_with fail
      refine (toIntS_any (by omega) hb15.size (hs.below hb15)).mono ?_; rintro e w17 ⟨A17, c17, rfl, hP, hb17'⟩
      have hb17 := hb15.trans (hb17'.mono hb15.size)
      have hG17 := hG15.below hb17' (Nat.le_refl _)
      have hWi17 := hWi15.below (hb17'.mono (by omega))
      have s17 := hb17'.size
      clear hb15 hb17' hG15 hWi15
      go_wp2_with fail
      refine (toIntS_any (by omega) hb17.size (hl.below hb17)).mono ?_; rintro e w18 ⟨A18, c18, rfl, hQ, hb18'⟩
      have hb18 := hb17.trans (hb18'.mono hb17.size)
      have hP18 := hP.below hb18' (Nat.le_refl _)
      have hG18 := hG17.below hb18' (Nat.le_refl _)
      have hWi18 := hWi17.below (hb18'.mono (by omega))
      have s18 := hb18'.size
      clear hb17 hb18' hG17 hWi17 hP
      go_wp2_with fail
      refine (impl_CountsJoin hn hm (Nat.le_refl _) (Nat.le_refl _) hP18.ints hQ.ints).mono ?_; rintro e w19 ⟨A19, c19, rfl, hH, hb19'⟩
      rw [HN.out, HM.out] at hH; rw [HN.out, HO.out]
      have hb19 := hb18.trans (hb19'.mono hb18.size)
      have hG19 := hG18.below hb19' (Nat.le_refl _)
      have hWi19 := hWi18.below (hb19'.mono (by omega))
      clear hb18 hb19' hG18 hWi18 hP18 hQ
      go_wp2_with fail
      refine (eqIntS_any (by omega) hH.ints hWi19).mono ?_; rintro e w20 ⟨rfl, j20, rfl⟩
      have hG20 := hG19.drewN j20
      have hb20 := below_drewN hb19 j20
      generalize w19.drewN j20 = w20 at *
      go_wp2_with fail
      refine (heldIntS_any 1 (by omega) (by omega) (by omega) hG20.ints).mono ?_; rintro e w21 ⟨rfl, rfl⟩
      rw [E3]
      go_wp2
      go_ret
      exact ⟨rfl, hb20⟩
    · go_enter Try.func5, Try.ntmps5
      go_wp2
      go_ret
      exact ⟨rfl, Below.refl _ _⟩
  · go_enter Try.func5, Try.ntmps5
    go_wp2
    go_ret
    exact ⟨rfl, Below.refl _ _⟩
end Go.Proofs.Ytcjfcohgokhbbaa
