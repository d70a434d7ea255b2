/-
  The law FnExactReadHeights: the walk. No claim stands here.
-/
import Derived.Test.YthkpikkjgggimaaDoorReadH
import Derived.Test.YthkpikkjgggimaaDoorBB
import Derived.ChangeAgain
namespace Go.Proofs.YthkpikkjgggimaaDoor
open Go.RowKit
set_option linter.unusedVariables false
set_option linter.unusedSimpArgs false

theorem shape_below {w w' : World} (h : w.ShapedOpen Tryd.prog) (hb : Below w.heap.size w w') : w'.ShapedOpen Tryd.prog :=
  h.keptBut (may := fun _ => False) (hb.frame _) (fun _ e => e.elim)

set_option maxHeartbeats 800000 in
theorem law_ExactReadHeights {w : World} (s : ByteArray) (hs : s.size ≤ 9223372036854775807) (hsh : w.ShapedOpen Tryd.prog) :
    Calls Tryd.prog 4 #[.string s] w fun e w' => e = .returned (.bool true) ∧ Below w.heap.size w w' := by
  by_cases h20 : s.size ≤ 1048576
  · have hn1 : rdN s ≤ 1048577 := by
      have := readN_short s
      unfold rdN
      split <;> omega
    have E := eqB_refl (readF s) (rdN s)
    have E3 := heldI_marked (rdN s) 1
    have HSH := Lib.hid hsh
    have HS := Lib.hid (spec_ReadHeights s (by omega))
    have HI := Lib.hid (impl_ReadHeights s (by omega))
    clear hsh
    generalize rdN s = n at *
    generalize readOk s = ok at *
    go_enter Tryd.func4, Tryd.ntmps4
    go_wp2_with fail
    refine (HS.out w).mono ?_; rintro e w1 ⟨A1, c1, rfl, hX, hb1⟩
    go_wp2_with fail
    refine (HI.out w1 (shape_below HSH.out hb1)).mono ?_; rintro e w2 ⟨A2, c2, rfl, hG, hb2⟩
    have FG := Lib.hid hG.lies
    have hX2 := hX.ints.below hb2
    have hb02 := hb1.trans (hb2.mono hb1.size)
    have s12 := hb1.size
    have s2 := hb2.size
    clear hX hb1 hb2
    go_wp2_with fail
    refine (eqIntS_any (by omega) hG.ints hX2).mono ?_; rintro e w3 ⟨rfl, j3, rfl⟩
    rw [E]
    have hb3 := below_drewN hb02 j3
    have hG3 := hG.drewN j3
    have hX3 := hX2.drewN j3
    have s3 : w2.heap.size ≤ (w2.drewN j3).heap.size := Nat.le_refl _
    clear hb02 hG hX2
    generalize w2.drewN j3 = w3 at *
    cases ok
    all_goals
      go_wp2_with fail
      refine (markIntS_any 1 (by omega) (by omega) hG3).mono ?_; rintro e w4 ⟨rfl, hG4, hwr4⟩
      have hb4 := Wrote.below hb3 hwr4 hb3.size (fun h b e => by have := FG.out h b e; omega)
      have hX4 := hX3.wrote hwr4 (by omega) (fun h b e => by have := FG.out h b e; omega)
      have s34 := hwr4.size
      clear hb3 hG3 hwr4
      go_wp2_with fail
      refine (heldIntS_any 1 (by omega) (by omega) (by omega) hG4.ints).mono ?_; rintro e w5 ⟨rfl, rfl⟩
      rw [E3]
      go_wp2_with fail
      refine (HI.out _ (shape_below HSH.out hb4)).mono ?_; rintro e w6 ⟨A6, c6, rfl, hH, hb6'⟩
      have hb6 := hb4.trans (hb6'.mono hb4.size)
      have hG6 := hG4.below hb6' (Nat.le_refl _)
      have hX6 := hX4.below (hb6'.mono (by omega))
      clear hb4 hb6' hG4
      go_wp2_with fail
      refine (eqIntS_any (by omega) hH.ints hX6).mono ?_; rintro e w7 ⟨rfl, j7, rfl⟩
      rw [E]
      have hG7 := hG6.drewN j7
      have hb7 := below_drewN hb6 j7
      generalize w6.drewN j7 = w7 at *
      go_wp2_with fail
      refine (heldIntS_any 1 (by omega) (by omega) (by omega) hG7.ints).mono ?_; rintro e w8 ⟨rfl, rfl⟩
      rw [E3]
      go_wp2
      go_ret
      exact ⟨rfl, hb7⟩
  · go_enter Tryd.func4, Tryd.ntmps4
    go_wp2
    go_ret
    exact ⟨rfl, Below.refl _ _⟩
end Go.Proofs.YthkpikkjgggimaaDoor
