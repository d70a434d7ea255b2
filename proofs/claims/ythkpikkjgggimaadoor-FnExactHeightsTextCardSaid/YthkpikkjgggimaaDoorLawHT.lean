/-
  The law FnExactHeightsText: the walk. No claim stands here.
-/
import Derived.Test.YthkpikkjgggimaaDoorText
import Derived.Test.YthkpikkjgggimaaDoorBB
namespace Go.Proofs.YthkpikkjgggimaaDoor
open Go.RowKit
set_option linter.unusedVariables false
set_option linter.unusedSimpArgs false

theorem law_ExactHeightsText {w : World} {A : Option Addr} {n c : Nat} {f : Nat → Int} (hs : Ints w w.heap.size A n f) :
    Calls Tryd.prog 3 #[.slice A n c] w fun e w' => e = .returned (.bool true) ∧ Below w.heap.size w w' := by
  by_cases h20 : n ≤ 1048576
  · have hn : n ≤ 9223372036854775806 := by omega
    have E := eqB_refl f n
    go_enter Tryd.func3, Tryd.ntmps3
    go_wp2_with fail
    refine (toIntS_any (by omega) (Nat.le_refl _) hs).mono ?_; rintro e w1 ⟨A1, c1, rfl, hr1, hb1⟩
    go_wp2_with fail
    refine (spec_HeightsText hn (Nat.le_refl _) hr1.ints).mono ?_; rintro e w2 ⟨rfl, hb2⟩
    have hb02 := hb1.trans (hb2.mono hb1.size)
    go_wp2_with fail
    refine (toIntS_any (by omega) hb02.size (hs.below hb02)).mono ?_; rintro e w3 ⟨A3, c3, rfl, hr3, hb3⟩
    have hb03 := hb02.trans (hb3.mono hb02.size)
    go_wp2_with fail
    refine (impl_HeightsText hn hr3.ints).mono ?_; rintro e w4 ⟨rfl, m4, rfl⟩
    generalize ByteArray.mk (textOf f n).toArray = tx
    go_wp2_with fail
    refine (toIntS_any (by omega) (by exact hb03.size) ((hs.below hb03).drewN _)).mono ?_; rintro e w5 ⟨A5, c5, rfl, hr5, hb5⟩
    go_wp2_with fail
    refine (eqIntS_any hn ((hr3.drewN m4).below hb5 (Nat.le_refl _)).ints hr5.ints).mono ?_; rintro e w6 ⟨rfl, j6, rfl⟩
    go_wp2
    go_ret
    exact ⟨rfl, below_drewN ((below_drewN hb03 m4).trans (hb5.mono hb03.size)) j6⟩
  · go_enter Tryd.func3, Tryd.ntmps3
    go_wp2
    go_ret
    exact ⟨rfl, Below.refl _ _⟩
end Go.Proofs.YthkpikkjgggimaaDoor
