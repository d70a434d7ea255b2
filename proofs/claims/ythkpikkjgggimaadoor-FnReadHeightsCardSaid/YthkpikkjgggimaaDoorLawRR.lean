/-
  The law FnReadHeights: the walk. No claim stands here.
-/
import Derived.Test.YthkpikkjgggimaaDoorFlZ
import Derived.Test.YthkpikkjgggimaaDoorLawER
import Derived.Test.YthkpikkjgggimaaDoorAlive
namespace Go.Proofs.YthkpikkjgggimaaDoor
open Go.RowKit
set_option linter.unusedVariables false
set_option linter.unusedSimpArgs false

set_option maxRecDepth 100000 in
set_option maxHeartbeats 1600000 in
theorem law_ReadHeights {w : World} {A : Option Addr} {n c : Nat} {h : Nat → Int} (hsh : w.ShapedOpen Tryd.prog) (hc : n ≤ c) (hs : Bytes w w.heap.size A n h) :
    Calls Tryd.prog 6 #[.slice A n c] w fun e w' => e = .returned (.bool true) ∧ Below w.heap.size w w' := by
  by_cases h20 : n ≤ 1048576
  · have HSH := Lib.hid hsh
    clear hsh
    go_enter Tryd.func6, Tryd.ntmps6
    go_wp2_with fail
    refine (DrawReadHeights_any (Nat.le_refl _) hc hs).mono ?_; rintro e w1 ⟨s, rfl, hss, hb1⟩
    have hA := fun W => add_texts W s.data.toList [44] (by simp; omega)
    have hcomma : readOk (ByteArray.mk (s.data.toList ++ [44]).toArray) = false := read_comma (s := s) (by simp)
    have hcs : (ByteArray.mk (s.data.toList ++ [44]).toArray).size ≤ 1048577 := by
      show (s.data.toList ++ [44]).toArray.size ≤ _
      simp; omega
    have e2 : (ByteArray.mk s.data.toList.toArray) = s := by cases s; simp
    rw [e2] at hA
    generalize ByteArray.mk (s.data.toList ++ [44]).toArray = t at *
    have HS1 := Lib.hid (shape_below HSH.out hb1)
    have HSP := Lib.hid (spec_ReadHeights s (by omega))
    have HI := Lib.hid (impl_ReadHeights s (by omega))
    have HC := Lib.hid (impl_ReadHeights t hcs)
    have HNC := Lib.hid (rdN_no hcomma)
    have hn1 : rdN s ≤ 1048577 := by
      have := readN_short s
      unfold rdN
      split <;> omega
    have E := eqB_refl (readF s) (rdN s)
    have HA := Lib.hid hA
    clear hA
    cases hok : readOk s
    · have HN0 := Lib.hid (rdN_no hok)
      rw [hok, HN0.out] at HI HSP
      rw [HN0.out] at E
      clear HC hcomma HNC HN0 hn1 hok
      generalize readF s = f at *
      go_wp2_with fail
      refine (HI.out w1 HS1.out).mono ?_; rintro e w2 ⟨A2, c2, rfl, hG, hb2⟩
      have hb02 := hb1.trans (hb2.mono hb1.size)
      clear hb1 hb2
      go_wp2_with fail
      refine (HSP.out w2).mono ?_; rintro e w3 ⟨A3, c3, rfl, hX, hb3⟩
      have hb03 := hb02.trans (hb3.mono hb02.size)
      have hG3 := (hG.below hb3 (Nat.le_refl _)).ints
      have hX3 := hX.ints
      clear hb02 hb3 hG hX
      go_wp2_with fail
      refine (sameInts_any (by omega) hG3 hX3).mono ?_; rintro e w4 ⟨rfl, j4, rfl⟩
      rw [E]
      have hb04 := below_drewN hb03 j4
      clear hG3 hX3 hb03
      go_wp2_with fail
      refine alive_any.mono ?_; rintro e w5 ⟨rfl, hb5⟩
      have hb05 := hb04.trans (hb5.mono hb04.size)
      go_wp2
      go_ret
      exact ⟨rfl, hb05⟩
    · have HNY := Lib.hid (rdN_yes hok)
      have HTX := read_text hok
      have HFV : floorsB (readF s) (readN s) = true := hok
      rw [← HNY.out] at HTX HFV
      have HTY : ByteArray.mk (textOf (readF s) (rdN s)).toArray = s := by rw [HTX, e2]
      rw [hok] at HI HSP
      rw [hcomma] at HC
      clear HNY HTX hcomma HNC
      generalize readF s = f at *
      generalize rdN s = m at *
      clear hok
      go_wp2_with fail
      refine (HI.out w1 HS1.out).mono ?_; rintro e w2 ⟨A2, c2, rfl, hG, hb2⟩
      have hb02 := hb1.trans (hb2.mono hb1.size)
      have s1 := hb1.size
      clear hb1 hb2
      go_wp2_with fail
      refine (HSP.out w2).mono ?_; rintro e w3 ⟨A3, c3, rfl, hX, hb3⟩
      have hb03 := hb02.trans (hb3.mono hb02.size)
      have hG3 := hG.below hb3 (Nat.le_refl _)
      have hX3 := hX.ints
      clear hb02 hb3 hG hX
      go_wp2_with fail
      refine (sameInts_any (by omega) hG3.ints hX3).mono ?_; rintro e w4 ⟨rfl, j4, rfl⟩
      rw [E]
      have hb04 := below_drewN hb03 j4
      have hG4 := hG3.drewN j4
      clear hG3 hX3 hb03
      generalize w3.drewN j4 = w4 at *
      have hA := HA.out
      go_wp2_with fail
      refine (HC.out w4 (shape_below HSH.out hb04)).mono ?_; rintro e w5 ⟨A5, c5, rfl, hT, hb5⟩
      have hb05 := hb04.trans (hb5.mono hb04.size)
      have hG5 := (hG4.below hb5 (Nat.le_refl _)).ints
      clear hb04 hb5 hG4 hT hA
      go_wp2_with fail
      refine (impl_FloorsValid (by omega) hG5).mono ?_; rintro e w6 ⟨rfl, j6, rfl⟩
      rw [HFV]
      have hb06 := below_drewN hb05 j6
      have hG6 := hG5.drewN j6
      clear hb05 hG5
      generalize w5.drewN j6 = w6 at *
      go_wp2_with fail
      refine (impl_HeightsText (by omega) hG6).mono ?_; rintro e w7 ⟨rfl, j7, rfl⟩
      rw [HTY]
      have hb07 := below_drewN hb06 j7
      go_wp2
      go_ret
      exact ⟨rfl, hb07⟩
  · go_enter Tryd.func6, Tryd.ntmps6
    go_wp2
    go_ret
    exact ⟨rfl, Below.refl _ _⟩
end Go.Proofs.YthkpikkjgggimaaDoor
