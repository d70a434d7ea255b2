/-
  The contracts of LongestGap and ServiceOk, in the reference and in the program. No claim stands here.
-/
import Derived.Test.YtnpignenikkmiaaStops
namespace Go.Proofs.Ytnpignenikkmiaa
open Go.RowKit
set_option linter.unusedVariables false
set_option linter.unusedSimpArgs false

theorem gap_bounds {f : Nat → Int} {n : Nat} (h : stopsB f n = true) : ∀ k, k ≤ n → (0 ≤ prevS f k ∧ prevS f k ≤ 39) ∧ 0 ≤ gapTo f k ∧ gapTo f k ≤ 39 := by
  intro k hk
  have hp : ∀ k, k ≤ n → 0 ≤ prevS f k ∧ prevS f k ≤ 39 := fun k hk => by
    cases k with
    | zero => simp [prevS]
    | succ k => have := stopsB_iff.1 h k (by omega); simp only [prevS]; omega
  refine ⟨hp k hk, gapTo_nonneg f k, gapTo_le.2 ⟨by omega, fun i hi => ?_⟩⟩
  have := hp i (by omega)
  have := stopsB_iff.1 h i (by omega)
  omega

theorem max_ite (x y : Int) : (if x < y then y else x) = max x y := by split <;> omega
theorem gapTo_ite (f : Nat → Int) (k : Nat) : Value.int .i64 (if gapTo f k < f k - prevS f k then f k - prevS f k else gapTo f k) = .int .i64 (gapTo f (k + 1)) := by
  rw [max_ite]; rfl
theorem gapOf_ite {t : Int} {f : Nat → Int} {n : Nat} (h : gapOk t f n = true) : (if gapTo f n < t - prevS f n then t - prevS f n else gapTo f n) = gapOf t f n := by
  rw [max_ite, gapOf_yes h]
theorem gapOk_mk {t : Int} {f : Nat → Int} {n : Nat} (h1 : inB t 1 40 = true) (h2 : stopsB f n = true) (h3 : allB (aheadP t f) n = true) : gapOk t f n = true := by simp [gapOk, h1, h2, h3]

theorem impl_LongestGap {w : World} {B : Nat} {A : Option Addr} {n c : Nat} {f : Nat → Int} (t : Int) (hn : n ≤ 9223372036854775806) (hs : Ints w B A n f) :
    Calls Try.prog 20 #[.int .i64 t, .slice A n c] w fun e w' => e = .returned (.int .i64 (gapOf t f n)) ∧ w = w' := by
  cases ht : inB t 1 40
  · have HN := Lib.hid (gapOf_no (show gapOk t f n = false by simp [gapOk, ht]))
    go_enter Try.func20, Try.ntmps20
    go_wp2_with (go_at_call 35; refine (tripsValid_any _ _).mono ?_; rintro e w' ⟨rfl, rfl⟩)
    go_ret
    exact ⟨ret_int HN.out.symm, rfl⟩
  · cases hv : stopsB f n
    · have HN := Lib.hid (gapOf_no (show gapOk t f n = false by simp [gapOk, hv]))
      go_enter Try.func20, Try.ntmps20
      go_wp2_with (first
        | (go_at_call 35; refine (tripsValid_any _ _).mono ?_; rintro e w' ⟨rfl, rfl⟩)
        | (go_at_call 15; refine (impl_StopsValid hn hs).mono ?_; rintro e w' ⟨rfl, rfl⟩))
      go_ret
      exact ⟨ret_int HN.out.symm, rfl⟩
    · have HB := Lib.hid (gap_bounds hv)
      have HV := Lib.hid hv
      have HT := Lib.hid ht
      obtain ⟨ht1, ht2⟩ := inB_iff.1 ht
      go_enter Try.func20, Try.ntmps20
      go_wp2_with (first
        | (go_at_call 35; refine (tripsValid_any _ _).mono ?_; rintro e w' ⟨rfl, rfl⟩)
        | (go_at_call 15; refine (impl_StopsValid hn hs).mono ?_; rintro e w' ⟨rfl, rfl⟩))
      clear hv ht
      go_loop [5, 6, 19] (fun s5 s6 s19 => ∃ k : Nat, k ≤ n ∧ s19 = .int .i64 k ∧ s5 = .int .i64 (gapTo f k) ∧ s6 = .int .i64 (prevS f k) ∧ Hid (allB (aheadP t f) k = true)) (fun _ _ s19 => n - (intOf s19).toNat)
      case atStart => exact ⟨0, Nat.zero_le _, rfl, rfl, rfl, rfl⟩
      case round =>
        obtain ⟨k, hk, rfl, rfl, rfl, HK⟩ := hrel
        obtain ⟨⟨p1, p2⟩, p3, p4⟩ := HB.out k hk
        by_cases hlt : k < n
        · obtain ⟨b, off, rfl, _, hc⟩ := hs (by omega)
          have c0 := hc k hlt
          obtain ⟨q1, q2, _⟩ := stopsB_iff.1 HV.out k hlt
          clear hc hs
          by_cases h1 : t ≤ f k
          · have HN := Lib.hid (gapOf_no (t := t) (f := f) (n := n) (by simp [gapOk, allB_no (p := aheadP t f) hlt (by simp [aheadP, h1])]))
            go_wp2
            go_ret
            exact ⟨ret_int HN.out.symm, rfl⟩
          · have HN := Lib.hid (show aheadP t f k = true by simp [aheadP]; omega)
            go_wp2
            go_round
            case rel => exact ⟨k + 1, by omega, by go_num, gapTo_ite f k, rfl, allB_succ HK.out HN.out⟩
            case measure => simp [intOf]; omega
        · obtain rfl : k = n := by omega
          have HE := Lib.hid (gapOf_yes (gapOk_mk HT.out HV.out HK.out))
          go_wp2
          all_goals
            go_ret
            exact ⟨ret_int (by have := HE.out; omega), rfl⟩

theorem ahead_last {t : Int} {f : Nat → Int} {n : Nat} (hs : stopsB f n = true) (hn : 0 < n) : allB (aheadP t f) n = decide (f (n - 1) < t) := by
  rw [Bool.eq_iff_iff, allB_iff]
  simp only [aheadP, decide_eq_true_eq]
  constructor
  · intro h; exact h _ (by omega)
  · intro h i hi
    by_cases e : i = n - 1
    · subst e; exact h
    · have := stops_lt hs i (n - 1) (by omega) (by omega); omega

set_option maxHeartbeats 400000 in
theorem spec_LongestGap {w : World} {B : Nat} {A : Option Addr} {n c : Nat} {f : Nat → Int} (t : Int) (hn : n ≤ 9223372036854775806) (hs : Ints w B A n f) :
    Calls Try.prog 19 #[.int .i64 t, .slice A n c] w fun e w' => e = .returned (.int .i64 (gapOf t f n)) ∧ Drew w w' := by
  cases ht : inB t 1 40
  · have HN := Lib.hid (gapOf_no (show gapOk t f n = false by simp [gapOk, ht]))
    go_enter Try.func19, Try.ntmps19
    go_wp2_with (go_at_call 34; refine (l1In_any _ _ _ _).mono ?_; rintro e w' ⟨rfl, rfl⟩)
    go_ret
    exact ⟨ret_int HN.out.symm, Drew.refl _⟩
  · cases hv : stopsB f n
    · have HN := Lib.hid (gapOf_no (show gapOk t f n = false by simp [gapOk, hv]))
      go_enter Try.func19, Try.ntmps19
      go_wp2_with (first
        | (go_at_call 34; refine (l1In_any _ _ _ _).mono ?_; rintro e w' ⟨rfl, rfl⟩)
        | (go_at_call 13; refine (spec_StopsValid hn hs).mono ?_; rintro e w' ⟨rfl, m, rfl⟩))
      go_ret
      exact ⟨ret_int HN.out.symm, _, rfl⟩
    · have HB := Lib.hid (gap_bounds hv)
      have HV := Lib.hid hv
      have HT := Lib.hid ht
      obtain ⟨ht1, ht2⟩ := inB_iff.1 ht
      by_cases h0 : n = 0
      · subst h0
        have HE := Lib.hid (gapOf_yes (gapOk_mk (t := t) (f := f) (n := 0) ht hv rfl))
        have HX : Hid (gapTo f 0 = 0 ∧ prevS f 0 = 0) := ⟨rfl, rfl⟩
        clear hv ht
        go_enter Try.func19, Try.ntmps19
        go_wp2_with (first
          | (go_at_call 34; refine (l1In_any _ _ _ _).mono ?_; rintro e w' ⟨rfl, rfl⟩; rw [HT.out])
          | (go_at_call 13; refine (spec_StopsValid hn hs).mono ?_; rintro e w' ⟨rfl, m, rfl⟩; rw [HV.out]))
        refine wp_loop_rounds 1 ?_
        rw [rounds_succ]
        go_wp2
        all_goals
          go_ret
          exact ⟨ret_int (by have := HE.out; have := HX.out; omega), _, rfl⟩
      · obtain ⟨b, off, rfl, _, hc⟩ := hs (by omega)
        have cl := hc (n - 1) (by omega)
        have h0' : decide ((0 : Int) < (n : Int)) = true := by simp; omega
        have hpos : 0 < n := by omega
        by_cases h1 : f (n - 1) < t
        · have HA := Lib.hid ((ahead_last (t := t) hv hpos).trans (decide_eq_true h1))
          have HE := Lib.hid (gapOf_yes (gapOk_mk (t := t) (f := f) (n := n) ht hv HA.out))
          clear hv ht h0
          go_enter Try.func19, Try.ntmps19
          go_wp2_with (first
            | (go_at_call 34; refine (l1In_any _ _ _ _).mono ?_; rintro e w' ⟨rfl, rfl⟩; rw [HT.out])
            | (go_at_call 13; refine (spec_StopsValid hn hs).mono ?_; rintro e w' ⟨rfl, m, rfl⟩; rw [HV.out]))
          go_loop [5, 6, 7] (fun s5 s6 s7 => ∃ k : Nat, k ≤ n ∧ s7 = .int .i64 k ∧ s6 = .int .i64 (gapTo f k) ∧ s5 = .int .i64 (prevS f k)) (fun _ _ s7 => n - (intOf s7).toNat)
          case atStart => exact ⟨0, Nat.zero_le _, rfl, rfl, rfl⟩
          case round =>
            obtain ⟨k, hk, rfl, rfl, rfl⟩ := hrel
            obtain ⟨⟨p1, p2⟩, p3, p4⟩ := HB.out k hk
            by_cases hlt : k < n
            · have c0 := hc k hlt
              obtain ⟨q1, q2, _⟩ := stopsB_iff.1 HV.out k hlt
              clear hc hs cl
              go_wp2
              go_round
              case rel => exact ⟨k + 1, by omega, by go_num, gapTo_ite f k, rfl⟩
              case measure => simp [intOf]; omega
            · obtain rfl : k = n := by omega
              clear hc
              go_wp2
              all_goals
                go_ret
                exact ⟨ret_int (by have := HE.out; omega), _, rfl⟩
        · have HN := Lib.hid (gapOf_no (t := t) (f := f) (n := n) (by simp [gapOk, (ahead_last (t := t) hv hpos).trans (decide_eq_false h1)]))
          clear hv ht h0 hc
          go_enter Try.func19, Try.ntmps19
          go_wp2_with (first
            | (go_at_call 34; refine (l1In_any _ _ _ _).mono ?_; rintro e w' ⟨rfl, rfl⟩; rw [HT.out])
            | (go_at_call 13; refine (spec_StopsValid hn hs).mono ?_; rintro e w' ⟨rfl, m, rfl⟩; rw [HV.out]))
          go_ret
          exact ⟨ret_int HN.out.symm, _, rfl⟩
end Go.Proofs.Ytnpignenikkmiaa
