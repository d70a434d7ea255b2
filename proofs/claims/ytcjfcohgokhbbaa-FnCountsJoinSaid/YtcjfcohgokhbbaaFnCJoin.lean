/-
  The law FnCountsJoin: the walk. No claim stands here.
-/
import Derived.Test.YtcjfcohgokhbbaaDrawC
import Derived.Test.YtcjfcohgokhbbaaAlive
import Derived.Test.YtcjfcohgokhbbaaCountOf
namespace Go.Proofs.Ytcjfcohgokhbbaa
open Go.RowKit
set_option linter.unusedVariables false
set_option linter.unusedSimpArgs false

theorem join_comm (f g : Nat → Int) : joinF f g = joinF g f := by
  funext i; simp only [joinF]; omega
theorem join_all {f g : Nat → Int} (h : joinOk f 16 g 16 = true) : allOf (joinF f g) 16 = allOf f 16 + allOf g 16 := by
  obtain ⟨h1, h2, h3⟩ := joinOk_iff.1 h
  rw [allOf_yes h1, allOf_yes h2, allOf_yes (show countsB (joinF f g) 16 = true from h3)]
  exact sumTo_add f g 16
theorem pct_range (f : Nat → Int) (n : Nat) (pc : Int) : -1 ≤ pctOf f n pc ∧ pctOf f n pc ≤ 16 := by
  cases h : pctOk f n pc
  · rw [pctOf_no h]; decide
  · have := (pct_first h).1
    rw [pctOf_yes h]; omega
/-- What the loop over the percentiles asks. -/
theorem pct_between {f g : Nat → Int} {pc : Int} (h : joinOk f 16 g 16 = true) : pctOf f 16 pc < 0 ∨ pctOf g 16 pc < 0 ∨
    (0 ≤ pctOf f 16 pc ∧ 0 ≤ pctOf g 16 pc ∧ min (pctOf f 16 pc) (pctOf g 16 pc) ≤ pctOf (joinF f g) 16 pc ∧ pctOf (joinF f g) 16 pc ≤ max (pctOf f 16 pc) (pctOf g 16 pc)) := by
  obtain ⟨h1, h2, h3⟩ := joinOk_iff.1 h
  by_cases a : pctOf f 16 pc < 0
  · exact .inl a
  · by_cases b : pctOf g 16 pc < 0
    · exact .inr (.inl b)
    · have ha : pctOk f 16 pc = true := by
        cases x : pctOk f 16 pc
        · exact absurd (pctOf_neg.2 x) a
        · rfl
      have hb : pctOk g 16 pc = true := by
        cases x : pctOk g 16 pc
        · exact absurd (pctOf_neg.2 x) b
        · rfl
      exact .inr (.inr ⟨by omega, by omega, pct_join ha hb h3⟩)

set_option maxHeartbeats 3200000 in
theorem law_CountsJoin {w : World} {A : Option Addr} {n c : Nat} {h : Nat → Int} (hc : n ≤ c) (hs : Bytes w w.heap.size A n h) :
    Calls Try.prog 11 #[.slice A n c] w fun e w' => e = .returned (.bool true) ∧ Below w.heap.size w w' := by
  by_cases h20 : n ≤ 1048576
  · go_enter Try.func11, Try.ntmps11
    go_wp2_with fail
    refine (DrawCountsJoin_any (Nat.le_refl _) hc hs).mono ?_
    rintro e w1 ⟨A1, n1, c1, f, A2, n2, c2, g, rfl, hn1, hr1, hn2, hs1, hb1⟩
    have HB1 := Lib.hid hb1
    have HF1 := Lib.hid hr1
    have HG1 := Lib.hid hs1
    have hsz1 := hb1.size
    clear hb1 hr1 hs1
    go_wp2_with fail
    refine (impl_CountsJoin (by omega) (by omega) (Nat.le_refl _) (Nat.le_refl _) HF1.out.ints HG1.out.ints).mono ?_
    rintro e w2 ⟨A3, c3, rfl, hr2, hb2⟩
    have HB2 := Lib.hid (HB1.out.trans (hb2.mono hsz1))
    have HF2 := Lib.hid (HF1.out.below hb2 (Nat.le_refl _))
    have HG2 := Lib.hid (HG1.out.below hb2 (Nat.le_refl _))
    have HX2 := Lib.hid hr2
    have hsz2 := HB2.out.size
    clear hr2 hb2 HB1 HF1 HG1
    go_wp2_with fail
    refine (spec_CountsJoin (by omega) (by omega) (Nat.le_refl _) (Nat.le_refl _) HF2.out.ints HG2.out.ints).mono ?_
    rintro e w3 ⟨A4, c4, rfl, hr3, hb3⟩
    have HB3 := Lib.hid (HB2.out.trans (hb3.mono hsz2))
    have HF3 := Lib.hid (HF2.out.below hb3 (Nat.le_refl _))
    have HG3 := Lib.hid (HG2.out.below hb3 (Nat.le_refl _))
    have HX3 := Lib.hid (HX2.out.below hb3 (Nat.le_refl _))
    have HY3 := Lib.hid hr3
    have hsz3 := HB3.out.size
    have hJ16 : joinN f n1 g n2 ≤ 16 := by
      cases h : joinOk f n1 g n2
      · rw [joinN_no h]; omega
      · rw [joinN_yes h]; omega
    have E := eqB_refl (joinF f g) (joinN f n1 g n2)
    clear hr3 hb3 HB2 HF2 HG2 HX2
    go_wp2_with fail
    refine (sameInts_any (by omega) HX3.out.ints HY3.out.ints).mono ?_
    rintro e w4 ⟨rfl, j4, rfl⟩
    rw [E]
    have HB4 := Lib.hid (below_drewN HB3.out j4)
    have HF4 := Lib.hid (HF3.out.drewN j4)
    have HG4 := Lib.hid (HG3.out.drewN j4)
    have HX4 := Lib.hid (HX3.out.drewN j4)
    have hsz4 := HB4.out.size
    clear HB3 HF3 HG3 HX3 HY3 E
    generalize w3.drewN j4 = w4 at *
    cases hv : joinOk f n1 g n2
    · rw [joinN_no hv] at HX4
      rw [joinN_no hv]
      clear hJ16 HX4 hv
      go_wp2_with fail
      refine alive_any.mono ?_
      rintro e w5 ⟨rfl, hb5⟩
      have HB5 := Lib.hid (HB4.out.trans (hb5.mono hsz4))
      clear hb5
      go_wp2
      go_ret
      exact ⟨rfl, HB5.out⟩
    · rw [joinN_yes hv] at HX4
      rw [joinN_yes hv]
      obtain ⟨k1, k2, k3⟩ := joinOk_iff.1 hv
      obtain ⟨rfl, -⟩ := countsB_iff.1 k1
      obtain ⟨rfl, -⟩ := countsB_iff.1 k2
      have HV := Lib.hid hv
      have HV2 : Hid (joinOk g 16 f 16 = true) := Lib.hid ((joinOk_comm g 16 f 16).trans hv)
      have hbf := allOf_bound k1 16 (Nat.le_refl _)
      have hbg := allOf_bound k2 16 (Nat.le_refl _)
      rw [← allOf_yes k1] at hbf
      rw [← allOf_yes k2] at hbg
      have HA := Lib.hid (join_all hv)
      clear hv k1 k2 k3 hJ16
      go_wp2_with fail
      refine (impl_CountsJoin (by omega) (by omega) (Nat.le_refl _) (Nat.le_refl _) HG4.out.ints HF4.out.ints).mono ?_
      rintro e w5 ⟨A5, c5, rfl, hr5, hb5⟩
      rw [joinN_yes HV2.out, HV2.out]
      rw [joinN_yes HV2.out, join_comm] at hr5
      have HB5 := Lib.hid (HB4.out.trans (hb5.mono hsz4))
      have HF5 := Lib.hid (HF4.out.below hb5 (Nat.le_refl _))
      have HG5 := Lib.hid (HG4.out.below hb5 (Nat.le_refl _))
      have HX5 := Lib.hid (HX4.out.below hb5 (Nat.le_refl _))
      have HZ5 := Lib.hid hr5
      clear hr5 hb5 HB4 HF4 HG4 HX4
      go_wp2
      go_loop [11] (fun s11 => ∃ k : Nat, s11 = .int .i64 ((10 * k : Nat) : Int) ∧ k ≤ 11) (fun s11 => (110 - intOf s11).toNat)
      case atStart => exact ⟨0, rfl, by omega⟩
      case round =>
        obtain ⟨k, rfl, hk⟩ := hrel
        generalize hP : 10 * k = pc at *
        have HP := Lib.hid hP
        clear hP
        by_cases hlt : pc ≤ 100
        · have hbt := pct_between (pc := (pc : Int)) HV.out
          have hr1 := pct_range f 16 pc
          have hr2 := pct_range g 16 pc
          have hr3 := pct_range (joinF f g) 16 pc
          go_wp2_with fail
          refine (impl_Percentile pc (by omega) HF5.out.ints).mono ?_
          rintro e w6 ⟨rfl, rfl⟩
          go_wp2_with fail
          refine (impl_Percentile pc (by omega) HG5.out.ints).mono ?_
          rintro e w6 ⟨rfl, rfl⟩
          go_wp2_with fail
          refine (impl_Percentile pc (by omega) HX5.out.ints).mono ?_
          rintro e w6 ⟨rfl, rfl⟩
          generalize pctOf f 16 pc = P at *
          generalize pctOf g 16 pc = R at *
          generalize pctOf (joinF f g) 16 pc = J at *
          clear hbf hbg
          rcases hbt with h1 | h1 | ⟨h1, h2, h3, h4⟩
          · go_wp2
            go_round
            case rel => exact ⟨k + 1, by have := HP.out; go_num, by have := HP.out; omega⟩
            case measure => simp [intOf] <;> omega
          · by_cases h0 : P < 0
            all_goals
              go_wp2
              go_round
              case rel => exact ⟨k + 1, by have := HP.out; go_num, by have := HP.out; omega⟩
              case measure => simp [intOf] <;> omega
          · by_cases h5 : R < P
            · have h6 : R ≤ J := by omega
              have h7 : J ≤ P := by omega
              have h8 : ¬ P < R := by omega
              clear h3 h4
              go_wp2
              go_round
              case rel => exact ⟨k + 1, by have := HP.out; go_num, by have := HP.out; omega⟩
              case measure => simp [intOf] <;> omega
            · have h6 : P ≤ J := by omega
              have h7 : J ≤ R := by omega
              clear h3 h4
              by_cases h8 : P < R
              all_goals
                go_wp2
                go_round
                case rel => exact ⟨k + 1, by have := HP.out; go_num, by have := HP.out; omega⟩
                case measure => simp [intOf] <;> omega
        · have E := eqB_refl (joinF f g) 16
          go_wp2_with fail
          refine (sameInts_any (by omega) HZ5.out.ints HX5.out.ints).mono ?_
          rintro e w6 ⟨rfl, j6, rfl⟩
          rw [E]
          clear E
          have HB6 := Lib.hid (below_drewN HB5.out j6)
          have HF6 := Lib.hid (HF5.out.drewN j6)
          have HG6 := Lib.hid (HG5.out.drewN j6)
          have HX6 := Lib.hid (HX5.out.drewN j6)
          clear HB5 HF5 HG5 HX5 HZ5
          generalize w5.drewN j6 = w6 at *
          go_wp2_with fail
          refine (impl_CountsAll (by omega) HX6.out.ints).mono ?_
          rintro e w7 ⟨rfl, rfl⟩
          rw [HA.out]
          go_wp2_with fail
          refine (impl_CountsAll (by omega) HF6.out.ints).mono ?_
          rintro e w7 ⟨rfl, rfl⟩
          go_wp2_with fail
          refine (impl_CountsAll (by omega) HG6.out.ints).mono ?_
          rintro e w7 ⟨rfl, rfl⟩
          clear HA
          generalize allOf f 16 = Sf at *
          generalize allOf g 16 = Sg at *
          go_wp2
          go_ret
          exact ⟨rfl, HB6.out⟩
  · go_enter Try.func11, Try.ntmps11
    go_wp2
    go_ret
    exact ⟨rfl, Below.refl _ _⟩
end Go.Proofs.Ytcjfcohgokhbbaa
