/-
  The laws FnCountsValid, FnCountsAll, FnPercentile: the walks. No claim stands here.
-/
import Derived.Test.YtcjfcohgokhbbaaDrawC
import Derived.Test.YtcjfcohgokhbbaaAlive
import Derived.Test.YtcjfcohgokhbbaaCountOf
namespace Go.Proofs.Ytcjfcohgokhbbaa
open Go.RowKit
set_option linter.unusedVariables false
set_option linter.unusedSimpArgs false

theorem counts_more (f : Nat → Int) : countsB f 17 = false := by simp [countsB]
theorem counts_zero : countsB (fun _ => 0) 16 = true := by decide

set_option maxHeartbeats 3200000 in
theorem law_CountsValid {w : World} {A : Option Addr} {n c : Nat} {h : Nat → Int} (hc : n ≤ c) (hs : Bytes w w.heap.size A n h) :
    Calls Try.prog 7 #[.slice A n c] w fun e w' => e = .returned (.bool true) ∧ Below w.heap.size w w' := by
  by_cases h20 : n ≤ 1048576
  · go_enter Try.func7, Try.ntmps7
    go_wp2_with fail
    refine (DrawCountsValid_any (Nat.le_refl _) hc hs).mono ?_
    rintro e w1 ⟨A1, n1, c1, f, rfl, hn1, hr1, hb1⟩
    have HB1 := Lib.hid hb1
    have HR1 := Lib.hid hr1
    have hsz1 := hb1.size
    clear hb1 hr1
    go_wp2_with fail
    refine (impl_CountsValid (by omega) HR1.out.ints).mono ?_
    rintro e w2 ⟨rfl, rfl⟩
    go_wp2_with fail
    refine (spec_CountsValid (by omega) HR1.out.ints).mono ?_
    rintro e w2 ⟨rfl, rfl⟩
    have hnc := HR1.out.nil
    cases hv : countsB f n1
    · go_wp2_with (at_make; refine want_make_ints _ (by rfl) _ _ rfl w.heap.size 16 _ rfl rfl (by rfl) (by omega) hsz1 ?_; intro w2 hr2 hg2)
      have HB2 := Lib.hid (HB1.out.grown hg2 hsz1 (by intro b e; cases e))
      have HR2 := Lib.hid hr2
      have hsz2 := HB2.out.size
      clear hr2 hg2
      refine (impl_CountsValid (by omega) HR2.out.ints).mono ?_
      rintro e w3 ⟨rfl, rfl⟩
      rw [counts_zero]
      go_wp2_with fail
      refine alive_any.mono ?_
      rintro e w3 ⟨rfl, hb3⟩
      have HB3 := Lib.hid (HB2.out.trans (hb3.mono hsz2))
      clear hb3
      go_wp2
      go_ret
      exact ⟨rfl, HB3.out⟩
    · obtain ⟨rfl, -⟩ := countsB_iff.1 hv
      go_wp2_with (first
        | (at_builtin; refine want_append_ints _ (by rfl) _ _ rfl rfl (Row.empty (w := w1) (base := w.heap.size) f hsz1) rfl (HR1.out.alloc _).ints hnc (by omega) (by simp; omega) ?_; intro A3 c3 w3 hr3 hg3; rw [Nat.zero_add] at hr3)
        | (at_builtin; refine want_append_int _ (by rfl) _ _ rfl rfl (hr3.alloc _) w3.heap.size 0 rfl (by simp) (by omega) (by have := hg3.size; simp at this ⊢; omega) ?_; intro A4 c4 w4 hr4 hg4))
      have HB3 := Lib.hid ((HB1.out.alloc hsz1 _).grown hg3 (by simp; omega) (fun b e => by simp [Value.ownBlock] at e; omega))
      have hsz3 := HB3.out.size
      have HB4 := Lib.hid ((HB3.out.alloc hsz3 _).grown hg4 (by simp; omega) hr3.own)
      have hsz4 := HB4.out.size
      refine (impl_CountsValid (by omega) hr4.ints).mono ?_
      rintro e w5 ⟨rfl, rfl⟩
      rw [counts_more]
      clear hr3 hg3 hr4 hg4
      go_wp2_with (at_make; refine want_make_ints _ (by rfl) _ _ rfl w.heap.size 16 _ rfl rfl (by rfl) (by omega) hsz4 ?_; intro w5 hr5 hg5)
      have HB5 := Lib.hid (HB4.out.grown hg5 hsz4 (by intro b e; cases e))
      have HR5 := Lib.hid hr5
      have hsz5 := HB5.out.size
      clear hr5 hg5
      refine (impl_CountsValid (by omega) HR5.out.ints).mono ?_
      rintro e w6 ⟨rfl, rfl⟩
      rw [counts_zero]
      go_wp2_with fail
      refine alive_any.mono ?_
      rintro e w6 ⟨rfl, hb6⟩
      have HB6 := Lib.hid (HB5.out.trans (hb6.mono hsz5))
      clear hb6
      go_wp2
      go_ret
      exact ⟨rfl, HB6.out⟩
  · go_enter Try.func7, Try.ntmps7
    go_wp2
    go_ret
    exact ⟨rfl, Below.refl _ _⟩

theorem pct_sign {f : Nat → Int} {n : Nat} (h : countsB f n = true) : (0 < sumTo f n ∧ 0 ≤ pctOf f n 50) ∨ (¬ 0 < sumTo f n ∧ ¬ 0 ≤ pctOf f n 50) := by
  by_cases h0 : 0 < sumTo f n
  · left
    refine ⟨h0, ?_⟩
    have := pctOf_yes (pctOk_iff.2 ⟨⟨h, h0⟩, by decide, by decide⟩ : pctOk f n 50 = true)
    rw [this]; omega
  · right
    refine ⟨h0, ?_⟩
    rw [pctOf_no (by rw [Bool.eq_false_iff]; intro h'; exact h0 (pctOk_iff.1 h').1.2)]
    decide

set_option maxHeartbeats 3200000 in
theorem law_CountsAll {w : World} {A : Option Addr} {n c : Nat} {h : Nat → Int} (hc : n ≤ c) (hs : Bytes w w.heap.size A n h) :
    Calls Try.prog 9 #[.slice A n c] w fun e w' => e = .returned (.bool true) ∧ Below w.heap.size w w' := by
  by_cases h20 : n ≤ 1048576
  · go_enter Try.func9, Try.ntmps9
    go_wp2_with fail
    refine (DrawCountsAll_any (Nat.le_refl _) hc hs).mono ?_
    rintro e w1 ⟨A1, n1, c1, f, rfl, hn1, hr1, hb1⟩
    have HB1 := Lib.hid hb1
    have HR1 := Lib.hid hr1
    have hsz1 := hb1.size
    clear hb1 hr1
    go_wp2_with fail
    refine (impl_CountsAll (by omega) HR1.out.ints).mono ?_
    rintro e w2 ⟨rfl, rfl⟩
    go_wp2_with fail
    refine (spec_CountsAll (by omega) HR1.out.ints).mono ?_
    rintro e w2 ⟨rfl, rfl⟩
    cases hv : countsB f n1
    · rw [allOf_no hv]
      have HV := Lib.hid hv
      clear hv
      go_wp2_with fail
      refine (impl_CountsValid (by omega) HR1.out.ints).mono ?_
      rintro e w2 ⟨rfl, rfl⟩
      rw [HV.out]
      go_wp2_with fail
      refine alive_any.mono ?_
      rintro e w3 ⟨rfl, hb3⟩
      have HB3 := Lib.hid (HB1.out.trans (hb3.mono hsz1))
      clear hb3
      go_wp2
      go_ret
      exact ⟨rfl, HB3.out⟩
    · rw [allOf_yes hv]
      obtain ⟨rfl, hb⟩ := countsB_iff.1 hv
      have HB := Lib.hid (fun i (hi : i < 16) => (⟨(hb i hi).1, by have := (hb i hi).2; omega⟩ : 0 ≤ f i ∧ f i ≤ 1000000))
      obtain ⟨s1, s2⟩ := allOf_bound hv 16 (Nat.le_refl _)
      have hsg := pct_sign hv
      clear hb hv
      go_wp2_with fail
      refine (sumOf_any HB.out (by omega) HR1.out.ints).mono ?_
      rintro e w2 ⟨rfl, rfl⟩
      go_wp2_with fail
      refine (impl_Percentile 50 (by omega) HR1.out.ints).mono ?_
      rintro e w2 ⟨rfl, rfl⟩
      generalize pctOf f 16 50 = P at *
      generalize sumTo f 16 = S at *
      rcases hsg with ⟨g1, g2⟩ | ⟨g1, g2⟩
      · go_wp2
        go_ret
        exact ⟨rfl, HB1.out⟩
      · have g3 : decide (0 ≤ P) = false := by simpa using g2
        have g4 : S = 0 := by omega
        clear g2
        subst g4
        go_wp2
        go_ret
        exact ⟨rfl, HB1.out⟩
  · go_enter Try.func9, Try.ntmps9
    go_wp2
    go_ret
    exact ⟨rfl, Below.refl _ _⟩

/-- What a percentile is. -/
theorem pct_is {f : Nat → Int} {n : Nat} {pc : Int} (h : pctOk f n pc = true) : ∃ K : Nat, pctOf f n pc = (K : Int) ∧ K < 16 ∧ n = 16 ∧ pc * sumTo f 16 ≤ 100 * (sumTo f K + f K) ∧ (0 < K → 100 * sumTo f K < pc * sumTo f 16) := by
  obtain ⟨h1, rfl⟩ := pct_first h
  obtain ⟨_, s2, s3⟩ := firstP_spec (pctP f 16 pc) 16
  refine ⟨_, pctOf_yes h, h1, rfl, ?_, fun h0 => ?_⟩
  · have := s3 h1
    rw [pctP_iff] at this
    simpa using this
  · have := s2 (firstP (pctP f 16 pc) 16 - 1) (by omega)
    rw [pctP] at this
    rw [show firstP (pctP f 16 pc) 16 - 1 + 1 = firstP (pctP f 16 pc) 16 by omega] at this
    simpa using this

set_option maxHeartbeats 3200000 in
theorem law_Percentile {w : World} {A : Option Addr} {n c : Nat} {h : Nat → Int} (hc : n ≤ c) (hs : Bytes w w.heap.size A n h) :
    Calls Try.prog 10 #[.slice A n c] w fun e w' => e = .returned (.bool true) ∧ Below w.heap.size w w' := by
  by_cases h20 : n ≤ 1048576
  · go_enter Try.func10, Try.ntmps10
    go_wp2_with fail
    refine (DrawPercentile_any (Nat.le_refl _) hc hs).mono ?_
    rintro e w1 ⟨A1, n1, c1, f, pc, rfl, hn1, hr1, hb1⟩
    have HB1 := Lib.hid hb1
    have HR1 := Lib.hid hr1
    have hsz1 := hb1.size
    clear hb1 hr1
    go_wp2_with fail
    refine (impl_Percentile pc (by omega) HR1.out.ints).mono ?_
    rintro e w2 ⟨rfl, rfl⟩
    go_wp2_with fail
    refine (spec_Percentile pc (by omega) HR1.out.ints).mono ?_
    rintro e w2 ⟨rfl, rfl⟩
    cases hv : pctOk f n1 pc
    · rw [pctOf_no hv]
      clear hv
      go_wp2_with fail
      refine alive_any.mono ?_
      rintro e w3 ⟨rfl, hb3⟩
      have HB3 := Lib.hid (HB1.out.trans (hb3.mono hsz1))
      clear hb3
      go_wp2
      go_ret
      exact ⟨rfl, HB3.out⟩
    · obtain ⟨⟨hcv, hS⟩, p0, p1⟩ := pctOk_iff.1 hv
      obtain ⟨K, e1, hK, rfl, e2, e3⟩ := pct_is hv
      obtain ⟨-, hb⟩ := countsB_iff.1 hcv
      have HB := Lib.hid (fun i (hi : i < 16) => (⟨(hb i hi).1, by have := (hb i hi).2; omega⟩ : 0 ≤ f i ∧ f i ≤ 1000000))
      have HS := Lib.hid (allOf_bound hcv)
      obtain ⟨m1, m2⟩ := pct_bounds hcv p0 p1
      have hmore : pc = 100 ∨ ((pc == 100) = false ∧ (K : Int) ≤ pctOf f 16 (pc + 1)) := by
        by_cases h1 : pc = 100
        · exact .inl h1
        · refine .inr ⟨by simpa using h1, ?_⟩
          have := pct_more hv (by omega)
          rw [e1] at this
          exact this
      rw [e1]
      clear hv hcv hb e1
      obtain ⟨b, off, rfl, hbb, hbl⟩ := HR1.out.form (by omega)
      go_wp2_with fail
      refine (sumOf_any HB.out (by omega) HR1.out.ints).mono ?_
      rintro e w2 ⟨rfl, rfl⟩
      go_wp2
      go_loop [7, 8] (fun s7 s8 => ∃ k : Nat, s8 = .int .i64 k ∧ k ≤ K ∧ s7 = .int .i64 (sumTo f k)) (fun _ s8 => K - (intOf s8).toNat)
      case atStart => exact ⟨0, rfl, by omega, rfl⟩
      case round =>
        obtain ⟨k, rfl, hk, rfl⟩ := hrel
        obtain ⟨b1, b2⟩ := HS.out k (by omega)
        obtain ⟨b3, b4⟩ := HB.out k (by omega)
        by_cases hlt : k < K
        · have z1 := HR1.out.cell (k := k) (by omega)
          have k1 : (k : Int) < 16 := by omega
          clear e2 e3 m1 m2 hmore
          go_wp2
          go_round
          case rel => exact ⟨k + 1, by go_num, by omega, rfl⟩
          case measure => simp [intOf]; omega
        · obtain rfl : k = K := by omega
          have z1 := HR1.out.cell (k := k) (by omega)
          have k1 : (k : Int) < 16 := by omega
          have k2 : (0 : Int) ≤ (k : Int) := by omega
          generalize sumTo f 16 = S16 at *
          generalize hSk : sumTo f k = Sk at *
          clear hSk
          have e3' : ((k : Int) == 0) = true ∨ (((k : Int) == 0) = false ∧ 100 * Sk < pc * S16) := by
            by_cases hk0 : k = 0
            · left; simp; omega
            · right; exact ⟨by simp; omega, e3 (by omega)⟩
          have x3 : IntKind.i64.wrap (100 * Sk) = 100 * Sk := IntWalk.i64_in _ (by omega)
          have x2 : IntKind.i64.wrap (100 * (Sk + f k)) = 100 * (Sk + f k) := IntWalk.i64_in _ (by omega)
          clear e3
          rcases hmore with rfl | ⟨h1, h2⟩
          · have x1 : IntKind.i64.wrap (100 * S16) = 100 * S16 := IntWalk.i64_in _ (by omega)
            rcases e3' with e3 | ⟨e3, e4⟩
            all_goals
              go_wp2
              go_ret
              exact ⟨rfl, HB1.out⟩
          · have x1 : IntKind.i64.wrap (pc * S16) = pc * S16 := IntWalk.i64_in _ (by omega)
            rcases e3' with e3 | ⟨e3, e4⟩
            all_goals
              go_wp2_with fail
              refine (impl_Percentile (pc + 1) (by omega) HR1.out.ints).mono ?_
              rintro e w6 ⟨rfl, rfl⟩
              generalize pctOf f 16 (pc + 1) = P at *
              go_wp2
              go_ret
              exact ⟨rfl, HB1.out⟩
  · go_enter Try.func10, Try.ntmps10
    go_wp2
    go_ret
    exact ⟨rfl, Below.refl _ _⟩
end Go.Proofs.Ytcjfcohgokhbbaa
