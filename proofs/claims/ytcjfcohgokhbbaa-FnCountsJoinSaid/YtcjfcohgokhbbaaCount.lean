/-
  The contracts of CountsValid, l18Sum, sumOf, CountsAll and Percentile, in the reference and in the program. No claim stands here.
-/
import Derived.Test.YtcjfcohgokhbbaaRead
import Derived.Test.YtcjfcohgokhbbaaCountsM
namespace Go.Proofs.Ytcjfcohgokhbbaa
open Go.RowKit
set_option linter.unusedVariables false
set_option linter.unusedSimpArgs false

theorem countsB_no {f : Nat → Int} {n k : Nat} (hk : k < n) (h : withinP f 1000 k = false) : countsB f n = false := by simp [countsB, allB_no hk h]

theorem impl_CountsValid {w : World} {B : Nat} {A : Option Addr} {n c : Nat} {f : Nat → Int} (hn : n ≤ 9223372036854775806) (hs : Ints w B A n f) :
    Calls Try.prog 25 #[.slice A n c] w fun e w' => e = .returned (.bool (countsB f n)) ∧ w = w' := by
  by_cases h16 : n = 16
  · subst h16
    go_enter Try.func25, Try.ntmps25
    go_wp2_with (go_at_call 38; refine (allWithin_any 1000 hn hs).mono ?_; rintro e w' ⟨rfl, rfl⟩)
    go_ret
    exact ⟨ret_bool (by simp [countsB]), rfl⟩
  · have he : ((n : Int) == 16) = false := by simp; omega
    have HN : Hid (countsB f n = false) := by simp [Hid, countsB, h16]
    clear h16
    go_enter Try.func25, Try.ntmps25
    go_wp2
    go_ret
    exact ⟨ret_bool HN.out.symm, rfl⟩

theorem spec_CountsValid {w : World} {B : Nat} {A : Option Addr} {n c : Nat} {f : Nat → Int} (hn : n ≤ 9223372036854775806) (hs : Ints w B A n f) :
    Calls Try.prog 26 #[.slice A n c] w fun e w' => e = .returned (.bool (countsB f n)) ∧ w = w' := by
  go_enter Try.func26, Try.ntmps26
  go_wp2
  go_loop [3] (fun s => ∃ k : Nat, k ≤ n ∧ s = .int .i64 k ∧ Hid (allB (withinP f 1000) k = true)) (fun s => n - (intOf s).toNat)
  case atStart => exact ⟨0, Nat.zero_le _, rfl, rfl⟩
  case round =>
    obtain ⟨k, hk, rfl, HK⟩ := hrel
    by_cases hlt : k < n
    · obtain ⟨b, off, rfl, _, hc⟩ := hs (by omega)
      have c0 := hc k hlt
      clear hc hs
      cases hp : inB (f k) 0 999
      · have HN := Lib.hid (countsB_no (f := f) hlt hp)
        go_wp2_with (go_at_call 35; refine (l1In_any _ _ _ _).mono ?_; rintro e w' ⟨rfl, rfl⟩)
        go_ret
        exact ⟨ret_bool HN.out.symm, rfl⟩
      · have HN := Lib.hid (show withinP f 1000 k = true from hp)
        go_wp2_with (go_at_call 35; refine (l1In_any _ _ _ _).mono ?_; rintro e w' ⟨rfl, rfl⟩)
        go_round
        case rel => exact ⟨k + 1, by omega, by go_num, allB_succ HK.out HN.out⟩
        case measure => simp [intOf]; omega
    · obtain rfl : k = n := by omega
      go_wp2
      go_ret
      exact ⟨ret_bool (by rw [Bool.eq_iff_iff]; simp [countsB, HK.out]; omega), rfl⟩

/-- A sum of numbers that cannot wrap. -/
theorem sum_small {f : Nat → Int} {n : Nat} (hb : ∀ i, i < n → 0 ≤ f i ∧ f i ≤ 1000000) (hn : n ≤ 1000000) : ∀ k, k ≤ n → 0 ≤ sumTo f k ∧ sumTo f k ≤ 1000000000000 := by
  intro k hk
  have := sumTo_bound hb k hk
  omega

theorem l18Sum_any {w : World} {B : Nat} {A : Option Addr} {n c : Nat} {f : Nat → Int} (hb : ∀ i, i < n → 0 ≤ f i ∧ f i ≤ 1000000) (hn : n ≤ 1000000) (hs : Ints w B A n f) :
    Calls Try.prog 34 #[.slice A n c] w fun e w' => e = .returned (.int .i64 (sumTo f n)) ∧ w = w' := by
  have HS := Lib.hid (sum_small hb hn)
  have HB := Lib.hid hb
  clear hb
  go_enter Try.func34, Try.ntmps34
  go_wp2
  go_loop [3, 4] (fun s3 s4 => ∃ k : Nat, k ≤ n ∧ s4 = .int .i64 k ∧ s3 = .int .i64 (sumTo f k)) (fun _ s4 => n - (intOf s4).toNat)
  case atStart => exact ⟨0, Nat.zero_le _, rfl, rfl⟩
  case round =>
    obtain ⟨k, hk, rfl, rfl⟩ := hrel
    obtain ⟨b1, b2⟩ := HS.out k hk
    by_cases hlt : k < n
    · obtain ⟨b, off, rfl, _, hc⟩ := hs (by omega)
      have c0 := hc k hlt
      obtain ⟨d1, d2⟩ := HB.out k hlt
      clear hc hs
      go_wp2
      go_round
      case rel => exact ⟨k + 1, by omega, by go_num, rfl⟩
      case measure => simp [intOf]; omega
    · obtain rfl : k = n := by omega
      go_wp2
      go_ret
      exact ⟨rfl, rfl⟩
theorem sumOf_any {w : World} {B : Nat} {A : Option Addr} {n c : Nat} {f : Nat → Int} (hb : ∀ i, i < n → 0 ≤ f i ∧ f i ≤ 1000000) (hn : n ≤ 1000000) (hs : Ints w B A n f) :
    Calls Try.prog 31 #[.slice A n c] w fun e w' => e = .returned (.int .i64 (sumTo f n)) ∧ w = w' := by
  have HS := Lib.hid (sum_small hb hn)
  have HB := Lib.hid hb
  clear hb
  go_enter Try.func31, Try.ntmps31
  go_wp2
  go_loop [3, 4] (fun s3 s4 => ∃ k : Nat, k ≤ n ∧ s4 = .int .i64 k ∧ s3 = .int .i64 (sumTo f k)) (fun _ s4 => n - (intOf s4).toNat)
  case atStart => exact ⟨0, Nat.zero_le _, rfl, rfl⟩
  case round =>
    obtain ⟨k, hk, rfl, rfl⟩ := hrel
    obtain ⟨b1, b2⟩ := HS.out k hk
    by_cases hlt : k < n
    · obtain ⟨b, off, rfl, _, hc⟩ := hs (by omega)
      have c0 := hc k hlt
      obtain ⟨d1, d2⟩ := HB.out k hlt
      clear hc hs
      go_wp2
      go_round
      case rel => exact ⟨k + 1, by omega, by go_num, rfl⟩
      case measure => simp [intOf]; omega
    · obtain rfl : k = n := by omega
      go_wp2
      go_ret
      exact ⟨rfl, rfl⟩

theorem impl_CountsAll {w : World} {B : Nat} {A : Option Addr} {n c : Nat} {f : Nat → Int} (hn : n ≤ 9223372036854775806) (hs : Ints w B A n f) :
    Calls Try.prog 19 #[.slice A n c] w fun e w' => e = .returned (.int .i64 (allOf f n)) ∧ w = w' := by
  cases hv : countsB f n
  · have HN := Lib.hid (allOf_no hv)
    go_enter Try.func19, Try.ntmps19
    go_wp2_with (go_at_call 25; refine (impl_CountsValid hn hs).mono ?_; rintro e w' ⟨rfl, rfl⟩)
    go_ret
    exact ⟨ret_int HN.out.symm, rfl⟩
  · have HN := Lib.hid (allOf_yes hv)
    obtain ⟨rfl, hb⟩ := countsB_iff.1 hv
    have HS := Lib.hid (allOf_bound hv)
    have HB := Lib.hid hb
    clear hb
    go_enter Try.func19, Try.ntmps19
    go_wp2_with (go_at_call 25; refine (impl_CountsValid hn hs).mono ?_; rintro e w' ⟨rfl, rfl⟩)
    clear hv
    go_loop [3, 11] (fun s3 s11 => ∃ k : Nat, k ≤ 16 ∧ s11 = .int .i64 k ∧ s3 = .int .i64 (sumTo f k)) (fun _ s11 => 16 - (intOf s11).toNat)
    case atStart => exact ⟨0, Nat.zero_le _, rfl, rfl⟩
    case round =>
      obtain ⟨k, hk, rfl, rfl⟩ := hrel
      obtain ⟨b1, b2⟩ := HS.out k hk
      by_cases hlt : k < 16
      · obtain ⟨b, off, rfl, _, hc⟩ := hs (by omega)
        have c0 := hc k hlt
        obtain ⟨d1, d2⟩ := HB.out k hlt
        clear hc hs
        go_wp2
        go_round
        case rel => exact ⟨k + 1, by omega, by go_num, rfl⟩
        case measure => simp [intOf]; omega
      · have e : k = 16 := by omega
        subst e
        go_wp2
        go_ret
        exact ⟨ret_int HN.out.symm, rfl⟩

theorem spec_CountsAll {w : World} {B : Nat} {A : Option Addr} {n c : Nat} {f : Nat → Int} (hn : n ≤ 9223372036854775806) (hs : Ints w B A n f) :
    Calls Try.prog 18 #[.slice A n c] w fun e w' => e = .returned (.int .i64 (allOf f n)) ∧ w = w' := by
  cases hv : countsB f n
  · have HN := Lib.hid (allOf_no hv)
    go_enter Try.func18, Try.ntmps18
    go_wp2_with (go_at_call 26; refine (spec_CountsValid hn hs).mono ?_; rintro e w' ⟨rfl, rfl⟩)
    go_ret
    exact ⟨ret_int HN.out.symm, rfl⟩
  · have HN := Lib.hid (allOf_yes hv)
    obtain ⟨h16, hb⟩ := countsB_iff.1 hv
    have HB : Hid (∀ i, i < n → 0 ≤ f i ∧ f i ≤ 1000000) := fun i hi => by have := hb i (by omega); omega
    clear hb
    have hn2 : n ≤ 1000000 := by omega
    clear h16
    go_enter Try.func18, Try.ntmps18
    go_wp2_with (first
      | (go_at_call 26; refine (spec_CountsValid hn hs).mono ?_; rintro e w' ⟨rfl, rfl⟩)
      | (go_at_call 34; refine (l18Sum_any HB.out hn2 hs).mono ?_; rintro e w' ⟨rfl, rfl⟩))
    go_ret
    exact ⟨ret_int HN.out.symm, rfl⟩

theorem pct_no1 {f : Nat → Int} {n : Nat} {pc : Int} (h : allOf f n ≤ 0) : pctOf f n pc = -1 := pctOf_no (by simp [pctOk]; omega)
theorem pct_no2 {f : Nat → Int} {n : Nat} {pc : Int} (h : inB pc 0 100 = false) : pctOf f n pc = -1 := pctOf_no (by simp [pctOk, h])
theorem pct_bounds {f : Nat → Int} {n : Nat} (h : countsB f n = true) {pc : Int} (h0 : 0 ≤ pc) (h1 : pc ≤ 100) : 0 ≤ pc * sumTo f n ∧ pc * sumTo f n ≤ 1600000 := by
  have hn := (countsB_iff.1 h).1
  have := allOf_bound h n (by omega)
  exact ⟨Int.mul_nonneg h0 this.1, Int.le_trans (Int.mul_le_mul h1 this.2 this.1 (by omega)) (by decide)⟩
theorem pct_hit {f : Nat → Int} {n : Nat} {pc : Int} {k : Nat} (h : pctOk f n pc = true) (hk : k < n) (h' : pctP f n pc k = true) (h2 : ∀ i, i < k → pctP f n pc i = false) : pctOf f n pc = k := by
  rw [pctOf_yes h, firstP_eq hk h' h2]


theorem pctP_iff {f : Nat → Int} {n : Nat} {pc : Int} {k : Nat} : pctP f n pc k = decide (pc * sumTo f n ≤ 100 * (sumTo f k + f k)) := rfl
theorem pct_end {f : Nat → Int} {n : Nat} {pc : Int} {k : Nat} (h : pctOk f n pc = true) (hk : 16 ≤ k) (h2 : ∀ i, i < k → pctP f n pc i = false) : False := by
  have := pct_last h
  rw [h2 15 (by omega)] at this
  cases this
theorem not_hit {f : Nat → Int} {n : Nat} {pc : Int} {k : Nat} (H : ∀ i, i < k → pctP f n pc i = false) (h : ¬ pc * sumTo f n ≤ (sumTo f k + f k) * 100) : ∀ i, i < k + 1 → pctP f n pc i = false := by
  intro i hi
  by_cases e : i = k
  · subst e
    rw [pctP_iff]; simp; omega
  · exact H i (by omega)

set_option maxHeartbeats 800000 in
theorem impl_Percentile {w : World} {B : Nat} {A : Option Addr} {n c : Nat} {f : Nat → Int} (pc : Int) (hn : n ≤ 9223372036854775806) (hs : Ints w B A n f) :
    Calls Try.prog 23 #[.slice A n c, .int .i64 pc] w fun e w' => e = .returned (.int .i64 (pctOf f n pc)) ∧ w = w' := by
  by_cases ha : allOf f n ≤ 0
  · have HN := Lib.hid (pct_no1 (pc := pc) ha)
    go_enter Try.func23, Try.ntmps23
    go_wp2_with (go_at_call 19; refine (impl_CountsAll hn hs).mono ?_; rintro e w' ⟨rfl, rfl⟩)
    go_ret
    exact ⟨ret_int HN.out.symm, rfl⟩
  · by_cases p0 : pc < 0
    · have HN := Lib.hid (pct_no2 (f := f) (n := n) (inB_no.2 (.inl p0)))
      go_enter Try.func23, Try.ntmps23
      go_wp2_with (go_at_call 19; refine (impl_CountsAll hn hs).mono ?_; rintro e w' ⟨rfl, rfl⟩)
      go_ret
      exact ⟨ret_int HN.out.symm, rfl⟩
    · by_cases p1 : 100 < pc
      · have HN := Lib.hid (pct_no2 (f := f) (n := n) (inB_no.2 (.inr p1)))
        go_enter Try.func23, Try.ntmps23
        go_wp2_with (go_at_call 19; refine (impl_CountsAll hn hs).mono ?_; rintro e w' ⟨rfl, rfl⟩)
        go_ret
        exact ⟨ret_int HN.out.symm, rfl⟩
      · have hv : countsB f n = true := by
          cases h : countsB f n
          · rw [allOf_no h] at ha; omega
          · rfl
        have hA := allOf_yes hv
        rw [hA] at ha
        have hok : pctOk f n pc = true := pctOk_iff.2 ⟨⟨hv, by omega⟩, by omega, by omega⟩
        obtain ⟨q1, q2⟩ := pct_bounds hv (pc := pc) (by omega) (by omega)
        have HK := Lib.hid hok
        have HA := Lib.hid hA
        have HS := Lib.hid (allOf_bound hv)
        have HB := Lib.hid (countsB_iff.1 hv).2
        have hn16 : n ≤ 16 := by have := (countsB_iff.1 hv).1; omega
        have hn16' : 16 ≤ n := by have := (countsB_iff.1 hv).1; omega
        clear hok hA hv
        go_enter Try.func23, Try.ntmps23
        go_wp2_with (go_at_call 19; refine (impl_CountsAll hn hs).mono ?_; rintro e w' ⟨rfl, rfl⟩; rw [HA.out])
        go_loop [6, 23] (fun s6 s23 => ∃ k : Nat, k ≤ n ∧ s23 = .int .i64 k ∧ s6 = .int .i64 (sumTo f k) ∧ Hid (∀ i, i < k → pctP f n pc i = false)) (fun _ s23 => n - (intOf s23).toNat)
        case atStart => exact ⟨0, Nat.zero_le _, rfl, rfl, fun i hi => absurd hi (by omega)⟩
        case round =>
          obtain ⟨k, hk, rfl, rfl, HP⟩ := hrel
          obtain ⟨b1, b2⟩ := HS.out k (by omega)
          by_cases hlt : k < n
          · obtain ⟨b, off, rfl, _, hc⟩ := hs (by omega)
            have c0 := hc k hlt
            obtain ⟨d1, d2⟩ := HB.out k (by omega)
            clear hc hs
            by_cases hh : pc * sumTo f n ≤ (sumTo f k + f k) * 100
            · have HN := Lib.hid (pct_hit HK.out hlt (by rw [pctP_iff]; simp; omega) HP.out)
              go_wp2
              go_ret
              exact ⟨ret_int HN.out.symm, rfl⟩
            · have HN := Lib.hid (not_hit HP.out hh)
              go_wp2
              go_round
              case rel => exact ⟨k + 1, by omega, by go_num, rfl, HN.out⟩
              case measure => simp [intOf]; omega
          · exact (pct_end HK.out (by omega) HP.out).elim

set_option maxHeartbeats 800000 in
theorem spec_Percentile {w : World} {B : Nat} {A : Option Addr} {n c : Nat} {f : Nat → Int} (pc : Int) (hn : n ≤ 9223372036854775806) (hs : Ints w B A n f) :
    Calls Try.prog 22 #[.slice A n c, .int .i64 pc] w fun e w' => e = .returned (.int .i64 (pctOf f n pc)) ∧ w = w' := by
  by_cases ha : allOf f n ≤ 0
  · have HN := Lib.hid (pct_no1 (pc := pc) ha)
    go_enter Try.func22, Try.ntmps22
    go_wp2_with (go_at_call 18; refine (spec_CountsAll hn hs).mono ?_; rintro e w' ⟨rfl, rfl⟩)
    go_ret
    exact ⟨ret_int HN.out.symm, rfl⟩
  · cases hp : inB pc 0 100
    · have HN := Lib.hid (pct_no2 (f := f) (n := n) hp)
      go_enter Try.func22, Try.ntmps22
      go_wp2_with (first
        | (go_at_call 18; refine (spec_CountsAll hn hs).mono ?_; rintro e w' ⟨rfl, rfl⟩)
        | (go_at_call 35; refine (l1In_any _ _ _ _).mono ?_; rintro e w' ⟨rfl, rfl⟩))
      go_ret
      exact ⟨ret_int HN.out.symm, rfl⟩
    · obtain ⟨p0, p1⟩ := inB_iff.1 hp
      have hv : countsB f n = true := by
        cases h : countsB f n
        · rw [allOf_no h] at ha; omega
        · rfl
      have hA := allOf_yes hv
      rw [hA] at ha
      have hok : pctOk f n pc = true := pctOk_iff.2 ⟨⟨hv, by omega⟩, by omega, by omega⟩
      obtain ⟨q1, q2⟩ := pct_bounds hv (pc := pc) (by omega) (by omega)
      have HK := Lib.hid hok
      have HA := Lib.hid hA
      have HP1 := Lib.hid hp
      have HS := Lib.hid (allOf_bound hv)
      have HB := Lib.hid (countsB_iff.1 hv).2
      have hn16 : n ≤ 16 := by have := (countsB_iff.1 hv).1; omega
      have hn16' : 16 ≤ n := by have := (countsB_iff.1 hv).1; omega
      clear hok hA hv hp
      go_enter Try.func22, Try.ntmps22
      go_wp2_with (first
        | (go_at_call 18; refine (spec_CountsAll hn hs).mono ?_; rintro e w' ⟨rfl, rfl⟩; rw [HA.out])
        | (go_at_call 35; refine (l1In_any _ _ _ _).mono ?_; rintro e w' ⟨rfl, rfl⟩; rw [HP1.out]))
      go_loop [6, 7] (fun s6 s7 => ∃ k : Nat, k ≤ n ∧ s7 = .int .i64 k ∧ s6 = .int .i64 (sumTo f k) ∧ Hid (∀ i, i < k → pctP f n pc i = false)) (fun _ s7 => n - (intOf s7).toNat)
      case atStart => exact ⟨0, Nat.zero_le _, rfl, rfl, fun i hi => absurd hi (by omega)⟩
      case round =>
        obtain ⟨k, hk, rfl, rfl, HP⟩ := hrel
        obtain ⟨b1, b2⟩ := HS.out k (by omega)
        by_cases hlt : k < n
        · obtain ⟨b, off, rfl, _, hc⟩ := hs (by omega)
          have c0 := hc k hlt
          obtain ⟨d1, d2⟩ := HB.out k (by omega)
          clear hc hs
          by_cases hh : pc * sumTo f n ≤ (sumTo f k + f k) * 100
          · have HN := Lib.hid (pct_hit HK.out hlt (by rw [pctP_iff]; simp; omega) HP.out)
            have hh' : pc * sumTo f n ≤ 100 * (sumTo f k + f k) := by omega
            go_wp2
            go_ret
            exact ⟨ret_int HN.out.symm, rfl⟩
          · have HN := Lib.hid (not_hit HP.out hh)
            have hh' : ¬ pc * sumTo f n ≤ 100 * (sumTo f k + f k) := by omega
            go_wp2
            go_round
            case rel => exact ⟨k + 1, by omega, by go_num, rfl, HN.out⟩
            case measure => simp [intOf]; omega
        · exact (pct_end HK.out (by omega) HP.out).elim
end Go.Proofs.Ytcjfcohgokhbbaa
