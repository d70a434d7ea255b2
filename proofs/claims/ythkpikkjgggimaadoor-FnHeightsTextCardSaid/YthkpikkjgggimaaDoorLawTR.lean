/-
  The law FnHeightsText: the walk. No claim stands here.
-/
import Derived.Test.YthkpikkjgggimaaDoorBackM
import Derived.Test.YthkpikkjgggimaaDoorFlD
import Derived.Test.YthkpikkjgggimaaDoorLawER
import Derived.Test.YthkpikkjgggimaaDoorAlive
namespace Go.Proofs.YthkpikkjgggimaaDoor
open Go.RowKit
set_option linter.unusedVariables false
set_option linter.unusedSimpArgs false

theorem floorsB_congr {f g : Nat → Int} {n : Nat} (h : ∀ i, i < n → f i = g i) : floorsB f n = floorsB g n := by
  rw [Bool.eq_iff_iff, floorsB_iff, floorsB_iff]
  constructor
  · rintro ⟨a, b, c, d, e⟩
    exact ⟨a, b, by rw [← h 0 (by omega)]; exact c, fun i h0 hi => by rw [← h i hi, ← h (i - 1) (by omega)]; exact d i h0 hi, by rw [← h (n - 1) (by omega)]; exact e⟩
  · rintro ⟨a, b, c, d, e⟩
    exact ⟨a, b, by rw [h 0 (by omega)]; exact c, fun i h0 hi => by rw [h i hi, h (i - 1) (by omega)]; exact d i h0 hi, by rw [h (n - 1) (by omega)]; exact e⟩
theorem DrawHeightsText_any {w : World} {B : Nat} {A : Option Addr} {n c : Nat} {h : Nat → Int} (hB : B ≤ w.heap.size) (hc : n ≤ c) (h20 : n ≤ 1048576) (hs : Bytes w B A n h) :
    Calls Tryd.prog 15 #[.slice A n c] w fun e w' => ∃ A' n' c' f, e = .returned (.slice A' n' c') ∧ n' ≤ 9 ∧ Row w' w.heap.size A' n' c' f ∧ Below w.heap.size w w' := by
  go_enter Tryd.func15, Tryd.ntmps15
  go_wp2_with fail
  refine (l20Open_any hB hc hs).mono ?_; rintro e w1 ⟨g, rfl, hg, hr, hb⟩
  go_wp2_with fail
  refine (l20Floors_any 5 (by omega) (by omega) (by omega) hr).mono ?_; rintro e w2 ⟨A2, n2, c2, f, rfl, hn2, hr2, hrd2, hg2⟩
  have hR := Lib.hid (hr2.mono hb.size)
  have hB2 := Lib.hid (hb.grown hg2 hb.size (fun b e => by cases e; exact hg))
  clear hr hb hr2 hrd2 hg2
  go_wp2
  go_ret
  exact ⟨A2, n2, c2, f, rfl, hn2, hR.out, hB2.out⟩

set_option maxHeartbeats 800000 in
theorem law_HeightsText {w : World} {A : Option Addr} {n c : Nat} {h : Nat → Int} (hsh : w.ShapedOpen Tryd.prog) (hc : n ≤ c) (hs : Bytes w w.heap.size A n h) :
    Calls Tryd.prog 5 #[.slice A n c] w fun e w' => e = .returned (.bool true) ∧ Below w.heap.size w w' := by
  by_cases h20 : n ≤ 1048576
  · have HSH := Lib.hid hsh
    clear hsh
    go_enter Tryd.func5, Tryd.ntmps5
    go_wp2_with fail
    refine (DrawHeightsText_any (Nat.le_refl _) hc h20 hs).mono ?_; rintro e w1 ⟨A1, n1, c1, f, rfl, hn1, hr1, hb1⟩
    have hsz1 := hb1.size
    go_wp2_with fail
    refine (impl_HeightsText (by omega) hr1.ints).mono ?_; rintro e w2 ⟨rfl, m2, rfl⟩
    have hb2 := below_drewN hb1 m2
    have hr2 := hr1.drewN m2
    have hsz2 : w.heap.size ≤ (w1.drewN m2).heap.size := hsz1
    clear hb1 hr1 hsz1
    generalize w1.drewN m2 = w2 at *
    have HTX := Lib.hid (rfl : ByteArray.mk (textOf f n1).toArray = ByteArray.mk (textOf f n1).toArray)
    cases hv : floorsB f n1
    · have HN := Lib.hid hv
      rw [textOf_no hv]
      go_wp2_with fail
      refine (spec_HeightsText (by omega) (Nat.le_refl _) hr2.ints).mono ?_; rintro e w3 ⟨rfl, hb3⟩
      rw [textOf_no hv]
      have hb03 := hb2.trans (hb3.mono hsz2)
      have hr3 := hr2.below hb3 (Nat.le_refl _)
      go_wp2_with fail
      refine (impl_FloorsValid (by omega) hr3.ints).mono ?_; rintro e w4 ⟨rfl, m4, rfl⟩
      rw [hv]
      go_wp2_with fail
      refine alive_any.mono ?_; rintro e w5 ⟨rfl, hb5⟩
      have hb05 := (below_drewN hb03 m4).trans (hb5.mono hb03.size)
      go_wp2
      go_ret
      exact ⟨rfl, hb05⟩
    · have HNE := Lib.hid (text_ne hv)
      have HSZ : Hid ((ByteArray.mk (textOf f n1).toArray).size ≤ 1048577) := by
        show (textOf f n1).toArray.size ≤ _
        rw [textOf_yes hv]
        have := hTo_len (f := f) (n := n1) n1 (fun i hi => floorsB_in hv hi)
        simp; omega
      have HTR := Lib.hid (text_read (s := ByteArray.mk (textOf f n1).toArray) hv (by simp))
      have hie : (textOf f n1).isEmpty = false := by cases hx : textOf f n1 with | nil => exact absurd hx (text_ne hv) | cons => rfl
      have hok : readOk (ByteArray.mk (textOf f n1).toArray) = true := by
        unfold readOk
        rw [HTR.out.1]
        rw [floorsB_congr HTR.out.2]
        exact hv
      have hrn : rdN (ByteArray.mk (textOf f n1).toArray) = n1 := (rdN_yes hok).trans HTR.out.1
      have HRD := Lib.hid (fun W hW => impl_ReadHeights (ByteArray.mk (textOf f n1).toArray) HSZ.out W hW)
      rw [hok, hrn] at HRD
      go_wp2_with fail
      refine (spec_HeightsText (by omega) (Nat.le_refl _) hr2.ints).mono ?_; rintro e w3 ⟨rfl, hb3⟩
      have hb03 := hb2.trans (hb3.mono hsz2)
      have hr3 := hr2.below hb3 (Nat.le_refl _)
      have hS3 := shape_below HSH.out hb03
      go_wp2_with fail
      refine (HRD.out _ hS3).mono ?_; rintro e w4 ⟨A4, c4, rfl, hr4, hb4⟩
      have hb04 := hb03.trans (hb4.mono hb03.size)
      have E : eqB (readF (ByteArray.mk (textOf f n1).toArray)) n1 f n1 = true := eqB_iff.2 ⟨rfl, HTR.out.2⟩
      have hr3b := hr3.below hb4 (Nat.le_refl _)
      generalize readF (ByteArray.mk (textOf f n1).toArray) = rf at *
      go_wp2_with fail
      refine (sameInts_any (by omega) hr4.ints hr3b.ints).mono ?_; rintro e w5 ⟨rfl, m5, rfl⟩
      rw [E]
      have hb05 := below_drewN hb04 m5
      go_wp2
      go_ret
      exact ⟨rfl, hb05⟩
  · go_enter Tryd.func5, Tryd.ntmps5
    go_wp2
    go_ret
    exact ⟨rfl, Below.refl _ _⟩
end Go.Proofs.YthkpikkjgggimaaDoor
