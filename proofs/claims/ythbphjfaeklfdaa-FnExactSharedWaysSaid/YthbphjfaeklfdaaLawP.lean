/-
  The laws FnExactPeopleOk, FnExactClearWays, FnExactLeastWays, FnExactSharedWays: the walks. No claim stands here.
-/
import Derived.Test.YthbphjfaeklfdaaShared
import Derived.Test.YthbphjfaeklfdaaMark
namespace Go.Proofs.Ythbphjfaeklfdaa
open Go.RowKit
set_option linter.unusedVariables false
set_option linter.unusedSimpArgs false


set_option maxHeartbeats 800000 in
theorem law_ExactPeopleOk {w : World} {A A' : Option Addr} {n m c c' : Nat} {f l : Nat → Int} (r : Int) (hs : Ints w w.heap.size A n f) (hl : Ints w w.heap.size A' m l) :
    Calls Try.prog 4 #[.slice A n c, .slice A' m c', .int .i64 r] w fun e w' => e = .returned (.bool true) ∧ Below w.heap.size w w' := by
  by_cases h20 : n ≤ 1048576
  · by_cases h21 : m ≤ 1048576
    · have hn : n ≤ 9223372036854775806 := by omega
      have hm : m ≤ 9223372036854775806 := by omega
      have E := eqB_refl f n
      have E' := eqB_refl l m
      go_enter Try.func4, Try.ntmps4
      go_wp2_with fail
      refine (toIntS_any (by omega) (Nat.le_refl _) hs).mono ?_; rintro e w1 ⟨A1, c1, rfl, hr1, hb1⟩
      go_wp2_with fail
      refine (toIntS_any (by omega) hb1.size (hl.below hb1)).mono ?_; rintro e w2 ⟨A2, c2, rfl, hr2, hb2'⟩
      have hb2 := hb1.trans (hb2'.mono hb1.size)
      go_wp2_with fail
      refine (spec_PeopleOk r hn hm (hr1.below hb2' (Nat.le_refl _)).ints hr2.ints).mono ?_; rintro e w3 ⟨rfl, hw3⟩
      have hb3 := hb2.trans (hw3.below)
      clear hr1 hr2 hb1 hb2 hb2' hw3
      go_wp2_with fail
      refine (toIntS_any (by omega) hb3.size (hs.below hb3)).mono ?_; rintro e w4 ⟨A4, c4, rfl, hr4, hb4'⟩
      have hb4 := hb3.trans (hb4'.mono hb3.size)
      go_wp2_with fail
      refine (toIntS_any (by omega) hb4.size (hl.below hb4)).mono ?_; rintro e w5 ⟨A5, c5, rfl, hr5, hb5'⟩
      have hb5 := hb4.trans (hb5'.mono hb4.size)
      have hr45 := hr4.below hb5' (Nat.le_refl _)
      clear hr4 hb4' hb5' hb4 hb3
      go_wp2_with fail
      refine (impl_PeopleOk r hn hm hr45.ints hr5.ints).mono ?_; rintro e w6 ⟨rfl, hw6⟩
      have hb6' : Below w5.heap.size w5 w6 := hw6.below
      have hb6 := hb5.trans (hb6'.mono hb5.size)
      have hr46 := hr45.below hb6' (Nat.le_refl _)
      have hr56 := hr5.below hb6' (Nat.le_refl _)
      clear hr45 hr5 hb5 hb6' hw6
      go_wp2_with fail
      refine (toIntS_any (by omega) hb6.size (hs.below hb6)).mono ?_; rintro e w7 ⟨A7, c7, rfl, hr7, hb7'⟩
      have hb7 := hb6.trans (hb7'.mono hb6.size)
      go_wp2_with fail
      refine (eqIntS_any (by omega) (hr46.below hb7' (Nat.le_refl _)).ints hr7.ints).mono ?_; rintro e w8 ⟨rfl, j8, rfl⟩
      have hb8 := below_drewN hb7 j8
      have hr58 := (hr56.below hb7' (Nat.le_refl _)).drewN j8
      clear hr46 hr7 hb7 hb7' hb6 hr56
      generalize w7.drewN j8 = w8 at *
      go_wp2_with fail
      refine (toIntS_any (by omega) hb8.size (hl.below hb8)).mono ?_; rintro e w9 ⟨A9, c9, rfl, hr9, hb9'⟩
      go_wp2_with fail
      refine (eqIntS_any (by omega) (hr58.below hb9' (Nat.le_refl _)).ints hr9.ints).mono ?_; rintro e w10 ⟨rfl, j10, rfl⟩
      go_wp2
      go_ret
      exact ⟨rfl, below_drewN (hb8.trans (hb9'.mono hb8.size)) j10⟩
    · go_enter Try.func4, Try.ntmps4
      go_wp2
      go_ret
      exact ⟨rfl, Below.refl _ _⟩
  · go_enter Try.func4, Try.ntmps4
    go_wp2
    go_ret
    exact ⟨rfl, Below.refl _ _⟩

set_option maxHeartbeats 800000 in
theorem law_ExactClearWays {w : World} {A A' : Option Addr} {n m c c' : Nat} {f l : Nat → Int} (r : Int) (hs : Ints w w.heap.size A n f) (hl : Ints w w.heap.size A' m l) :
    Calls Try.prog 7 #[.slice A n c, .slice A' m c', .int .i64 r] w fun e w' => e = .returned (.bool true) ∧ Below w.heap.size w w' := by
  by_cases h20 : n ≤ 1048576
  · by_cases h21 : m ≤ 1048576
    · have hn : n ≤ 9223372036854775806 := by omega
      have hm : m ≤ 9223372036854775806 := by omega
      have E := eqB_refl f n
      have E' := eqB_refl l m
      go_enter Try.func7, Try.ntmps7
      go_wp2_with fail
      refine (toIntS_any (by omega) (Nat.le_refl _) hs).mono ?_; rintro e w1 ⟨A1, c1, rfl, hr1, hb1⟩
      go_wp2_with fail
      refine (toIntS_any (by omega) hb1.size (hl.below hb1)).mono ?_; rintro e w2 ⟨A2, c2, rfl, hr2, hb2'⟩
      have hb2 := hb1.trans (hb2'.mono hb1.size)
      go_wp2_with fail
      refine (spec_ClearWays r hn hm (hr1.below hb2' (Nat.le_refl _)).ints hr2.ints).mono ?_; rintro e w3 ⟨rfl, hw3⟩
      have hb3 := hb2.trans (hw3.below)
      clear hr1 hr2 hb1 hb2 hb2' hw3
      go_wp2_with fail
      refine (toIntS_any (by omega) hb3.size (hs.below hb3)).mono ?_; rintro e w4 ⟨A4, c4, rfl, hr4, hb4'⟩
      have hb4 := hb3.trans (hb4'.mono hb3.size)
      go_wp2_with fail
      refine (toIntS_any (by omega) hb4.size (hl.below hb4)).mono ?_; rintro e w5 ⟨A5, c5, rfl, hr5, hb5'⟩
      have hb5 := hb4.trans (hb5'.mono hb4.size)
      have hr45 := hr4.below hb5' (Nat.le_refl _)
      clear hr4 hb4' hb5' hb4 hb3
      go_wp2_with fail
      refine (impl_ClearWays r hn hm hr45.ints hr5.ints).mono ?_; rintro e w6 ⟨rfl, hw6⟩
      have hb6' : Below w5.heap.size w5 w6 := hw6.below
      have hb6 := hb5.trans (hb6'.mono hb5.size)
      have hr46 := hr45.below hb6' (Nat.le_refl _)
      have hr56 := hr5.below hb6' (Nat.le_refl _)
      clear hr45 hr5 hb5 hb6' hw6
      go_wp2_with fail
      refine (toIntS_any (by omega) hb6.size (hs.below hb6)).mono ?_; rintro e w7 ⟨A7, c7, rfl, hr7, hb7'⟩
      have hb7 := hb6.trans (hb7'.mono hb6.size)
      go_wp2_with fail
      refine (eqIntS_any (by omega) (hr46.below hb7' (Nat.le_refl _)).ints hr7.ints).mono ?_; rintro e w8 ⟨rfl, j8, rfl⟩
      have hb8 := below_drewN hb7 j8
      have hr58 := (hr56.below hb7' (Nat.le_refl _)).drewN j8
      clear hr46 hr7 hb7 hb7' hb6 hr56
      generalize w7.drewN j8 = w8 at *
      go_wp2_with fail
      refine (toIntS_any (by omega) hb8.size (hl.below hb8)).mono ?_; rintro e w9 ⟨A9, c9, rfl, hr9, hb9'⟩
      go_wp2_with fail
      refine (eqIntS_any (by omega) (hr58.below hb9' (Nat.le_refl _)).ints hr9.ints).mono ?_; rintro e w10 ⟨rfl, j10, rfl⟩
      go_wp2
      go_ret
      exact ⟨rfl, below_drewN (hb8.trans (hb9'.mono hb8.size)) j10⟩
    · go_enter Try.func7, Try.ntmps7
      go_wp2
      go_ret
      exact ⟨rfl, Below.refl _ _⟩
  · go_enter Try.func7, Try.ntmps7
    go_wp2
    go_ret
    exact ⟨rfl, Below.refl _ _⟩

set_option maxHeartbeats 800000 in
theorem law_ExactLeastWays {w : World} {A A' : Option Addr} {n m c c' : Nat} {f l : Nat → Int} (r : Int) (hs : Ints w w.heap.size A n f) (hl : Ints w w.heap.size A' m l) :
    Calls Try.prog 6 #[.slice A n c, .slice A' m c', .int .i64 r] w fun e w' => e = .returned (.bool true) ∧ Below w.heap.size w w' := by
  by_cases h20 : n ≤ 1048576
  · by_cases h21 : m ≤ 1048576
    · have hn : n ≤ 9223372036854775806 := by omega
      have hm : m ≤ 9223372036854775806 := by omega
      have E := eqB_refl f n
      have E' := eqB_refl l m
      go_enter Try.func6, Try.ntmps6
      go_wp2_with fail
      refine (toIntS_any (by omega) (Nat.le_refl _) hs).mono ?_; rintro e w1 ⟨A1, c1, rfl, hr1, hb1⟩
      go_wp2_with fail
      refine (toIntS_any (by omega) hb1.size (hl.below hb1)).mono ?_; rintro e w2 ⟨A2, c2, rfl, hr2, hb2'⟩
      have hb2 := hb1.trans (hb2'.mono hb1.size)
      go_wp2_with fail
      refine (spec_LeastWays r hn hm (hr1.below hb2' (Nat.le_refl _)).ints hr2.ints).mono ?_; rintro e w3 ⟨rfl, hw3⟩
      have hb3 := hb2.trans (hw3.below)
      clear hr1 hr2 hb1 hb2 hb2' hw3
      go_wp2_with fail
      refine (toIntS_any (by omega) hb3.size (hs.below hb3)).mono ?_; rintro e w4 ⟨A4, c4, rfl, hr4, hb4'⟩
      have hb4 := hb3.trans (hb4'.mono hb3.size)
      go_wp2_with fail
      refine (toIntS_any (by omega) hb4.size (hl.below hb4)).mono ?_; rintro e w5 ⟨A5, c5, rfl, hr5, hb5'⟩
      have hb5 := hb4.trans (hb5'.mono hb4.size)
      have hr45 := hr4.below hb5' (Nat.le_refl _)
      clear hr4 hb4' hb5' hb4 hb3
      go_wp2_with fail
      refine (impl_LeastWays r hn hm hr45.ints hr5.ints).mono ?_; rintro e w6 ⟨rfl, hw6⟩
      have hb6' : Below w5.heap.size w5 w6 := hw6.below
      have hb6 := hb5.trans (hb6'.mono hb5.size)
      have hr46 := hr45.below hb6' (Nat.le_refl _)
      have hr56 := hr5.below hb6' (Nat.le_refl _)
      clear hr45 hr5 hb5 hb6' hw6
      go_wp2_with fail
      refine (toIntS_any (by omega) hb6.size (hs.below hb6)).mono ?_; rintro e w7 ⟨A7, c7, rfl, hr7, hb7'⟩
      have hb7 := hb6.trans (hb7'.mono hb6.size)
      go_wp2_with fail
      refine (eqIntS_any (by omega) (hr46.below hb7' (Nat.le_refl _)).ints hr7.ints).mono ?_; rintro e w8 ⟨rfl, j8, rfl⟩
      have hb8 := below_drewN hb7 j8
      have hr58 := (hr56.below hb7' (Nat.le_refl _)).drewN j8
      clear hr46 hr7 hb7 hb7' hb6 hr56
      generalize w7.drewN j8 = w8 at *
      go_wp2_with fail
      refine (toIntS_any (by omega) hb8.size (hl.below hb8)).mono ?_; rintro e w9 ⟨A9, c9, rfl, hr9, hb9'⟩
      go_wp2_with fail
      refine (eqIntS_any (by omega) (hr58.below hb9' (Nat.le_refl _)).ints hr9.ints).mono ?_; rintro e w10 ⟨rfl, j10, rfl⟩
      go_wp2
      go_ret
      exact ⟨rfl, below_drewN (hb8.trans (hb9'.mono hb8.size)) j10⟩
    · go_enter Try.func6, Try.ntmps6
      go_wp2
      go_ret
      exact ⟨rfl, Below.refl _ _⟩
  · go_enter Try.func6, Try.ntmps6
    go_wp2
    go_ret
    exact ⟨rfl, Below.refl _ _⟩

set_option maxHeartbeats 800000 in
theorem law_ExactSharedWays {w : World} {A A' : Option Addr} {n m c c' : Nat} {f l : Nat → Int} (r : Int) (hs : Ints w w.heap.size A n f) (hl : Ints w w.heap.size A' m l) :
    Calls Try.prog 8 #[.slice A n c, .slice A' m c', .int .i64 r] w fun e w' => e = .returned (.bool true) ∧ Below w.heap.size w w' := by
  by_cases h20 : n ≤ 1048576
  · by_cases h21 : m ≤ 1048576
    · have hn : n ≤ 100000000 := by omega
      have hm : m ≤ 100000000 := by omega
      have E := eqB_refl f n
      have E' := eqB_refl l m
      go_enter Try.func8, Try.ntmps8
      go_wp2_with fail
      refine (toIntS_any (by omega) (Nat.le_refl _) hs).mono ?_; rintro e w1 ⟨A1, c1, rfl, hr1, hb1⟩
      go_wp2_with fail
      refine (toIntS_any (by omega) hb1.size (hl.below hb1)).mono ?_; rintro e w2 ⟨A2, c2, rfl, hr2, hb2'⟩
      have hb2 := hb1.trans (hb2'.mono hb1.size)
      go_wp2_with fail
      refine (spec_SharedWays r hn hm (Nat.le_refl _) (Nat.le_refl _) (hr1.below hb2' (Nat.le_refl _)).ints hr2.ints).mono ?_; rintro e w3 ⟨rfl, hw3⟩
      have hb3 := hb2.trans (hw3.mono hb2.size)
      clear hr1 hr2 hb1 hb2 hb2' hw3
      go_wp2_with fail
      refine (toIntS_any (by omega) hb3.size (hs.below hb3)).mono ?_; rintro e w4 ⟨A4, c4, rfl, hr4, hb4'⟩
      have hb4 := hb3.trans (hb4'.mono hb3.size)
      go_wp2_with fail
      refine (toIntS_any (by omega) hb4.size (hl.below hb4)).mono ?_; rintro e w5 ⟨A5, c5, rfl, hr5, hb5'⟩
      have hb5 := hb4.trans (hb5'.mono hb4.size)
      have hr45 := hr4.below hb5' (Nat.le_refl _)
      clear hr4 hb4' hb5' hb4 hb3
      go_wp2_with fail
      refine (impl_SharedWays r hn hm (Nat.le_refl _) (Nat.le_refl _) hr45.ints hr5.ints).mono ?_; rintro e w6 ⟨rfl, hw6⟩
      have hb6' : Below w5.heap.size w5 w6 := hw6
      have hb6 := hb5.trans (hb6'.mono hb5.size)
      have hr46 := hr45.below hb6' (Nat.le_refl _)
      have hr56 := hr5.below hb6' (Nat.le_refl _)
      clear hr45 hr5 hb5 hb6' hw6
      go_wp2_with fail
      refine (toIntS_any (by omega) hb6.size (hs.below hb6)).mono ?_; rintro e w7 ⟨A7, c7, rfl, hr7, hb7'⟩
      have hb7 := hb6.trans (hb7'.mono hb6.size)
      go_wp2_with fail
      refine (eqIntS_any (by omega) (hr46.below hb7' (Nat.le_refl _)).ints hr7.ints).mono ?_; rintro e w8 ⟨rfl, j8, rfl⟩
      have hb8 := below_drewN hb7 j8
      have hr58 := (hr56.below hb7' (Nat.le_refl _)).drewN j8
      clear hr46 hr7 hb7 hb7' hb6 hr56
      generalize w7.drewN j8 = w8 at *
      go_wp2_with fail
      refine (toIntS_any (by omega) hb8.size (hl.below hb8)).mono ?_; rintro e w9 ⟨A9, c9, rfl, hr9, hb9'⟩
      go_wp2_with fail
      refine (eqIntS_any (by omega) (hr58.below hb9' (Nat.le_refl _)).ints hr9.ints).mono ?_; rintro e w10 ⟨rfl, j10, rfl⟩
      go_wp2
      go_ret
      exact ⟨rfl, below_drewN (hb8.trans (hb9'.mono hb8.size)) j10⟩
    · go_enter Try.func8, Try.ntmps8
      go_wp2
      go_ret
      exact ⟨rfl, Below.refl _ _⟩
  · go_enter Try.func8, Try.ntmps8
    go_wp2
    go_ret
    exact ⟨rfl, Below.refl _ _⟩
end Go.Proofs.Ythbphjfaeklfdaa
