/-
  The contracts of StopsValid and PartsValid, in the reference and in the program. No claim stands here.
-/
import Derived.Test.YtnpignenikkmiaaRead
import Derived.Test.YtnpignenikkmiaaServiceM
namespace Go.Proofs.Ytnpignenikkmiaa
open Go.RowKit
set_option linter.unusedVariables false

set_option maxHeartbeats 400000 in
theorem spec_StopsValid {w : World} {B : Nat} {A : Option Addr} {n c : Nat} {f : Nat → Int} (hn : n ≤ 9223372036854775806) (hs : Ints w B A n f) :
    Calls Try.prog 13 #[.slice A n c] w fun e w' => e = .returned (.bool (stopsB f n)) ∧ Drew w w' := by
  go_enter Try.func13, Try.ntmps13
  go_wp2
  go_loopw [3] (fun s3 wr => ∃ k : Nat, k ≤ n ∧ s3 = .int .i64 k ∧ Hid (allB (stopP f) k = true) ∧ Drew w wr) (fun s3 _ => n - (intOf s3).toNat)
  case atStart => exact ⟨0, Nat.zero_le _, rfl, rfl, Drew.refl _⟩
  case round =>
    obtain ⟨k, hk, rfl, HK, m, rfl⟩ := hrel
    by_cases hlt : k < n
    · obtain ⟨b, off, rfl, _, hc⟩ := hs (by omega)
      have c0 := hc k hlt
      have c1 := hc (k - 1) (by omega)
      clear hc hs
      cases hp : inB (f k) 1 39
      · have HN := Lib.hid (stopP_no1 hp)
        go_wp2
        go_quiet ((go_at_call 34; exact quiet_add_left (l1In_any _ _ _ _)))
        go_wp2
        go_ret
        exact ⟨ret_bool (allB_no hlt HN.out).symm, (Drew.refl _).n _ |>.n _⟩
      · by_cases h0 : 0 < k
        · have hd : decide ((0 : Int) < (k : Int)) = true := by simp; omega
          by_cases h1 : f (k - 1) < f k
          · have HN := Lib.hid (stopP_yes hp h1)
            go_wp2
            go_quiet ((go_at_call 34; exact quiet_add_left (l1In_any _ _ _ _)))
            go_wp2
            go_roundw
            case rel => exact ⟨k + 1, by omega, by go_num, allB_succ HK.out HN.out, by first | exact ⟨_, rfl⟩ | exact ⟨_, World.drewN_drewN _ _ _⟩⟩
            case measure => simp [intOf]; omega
          · have HN := Lib.hid (stopP_no2 h0 (by omega : f k ≤ f (k - 1)))
            go_wp2
            go_quiet ((go_at_call 34; exact quiet_add_left (l1In_any _ _ _ _)))
            go_wp2
            go_ret
            exact ⟨ret_bool (allB_no hlt HN.out).symm, (Drew.refl _).n _ |>.n _⟩
        · have hd : decide ((0 : Int) < (k : Int)) = false := by simp; omega
          have HN := Lib.hid (stopP_zero hp (by omega))
          go_wp2
          go_quiet ((go_at_call 34; exact quiet_add_left (l1In_any _ _ _ _)))
          go_wp2
          go_roundw
          case rel => exact ⟨k + 1, by omega, by go_num, allB_succ HK.out HN.out, by first | exact ⟨_, rfl⟩ | exact ⟨_, World.drewN_drewN _ _ _⟩⟩
          case measure => simp [intOf]; omega
    · obtain rfl : k = n := by omega
      go_wp2
      go_ret
      exact ⟨ret_bool HK.out.symm, (Drew.refl _).n _⟩

theorem impl_StopsValid {w : World} {B : Nat} {A : Option Addr} {n c : Nat} {f : Nat → Int} (hn : n ≤ 9223372036854775806) (hs : Ints w B A n f) :
    Calls Try.prog 15 #[.slice A n c] w fun e w' => e = .returned (.bool (stopsB f n)) ∧ w = w' := by
  go_enter Try.func15, Try.ntmps15
  go_wp2
  go_loop [7] (fun s7 => ∃ k : Nat, k ≤ n ∧ s7 = .int .i64 k ∧ Hid (allB (stopP f) k = true)) (fun s7 => n - (intOf s7).toNat)
  case atStart => exact ⟨0, Nat.zero_le _, rfl, rfl⟩
  case round =>
    obtain ⟨k, hk, rfl, HK⟩ := hrel
    by_cases hlt : k < n
    · obtain ⟨b, off, rfl, _, hc⟩ := hs (by omega)
      have c0 := hc k hlt
      have c1 := hc (k - 1) (by omega)
      clear hc hs
      by_cases h1 : f k < 1
      · have HN := Lib.hid (stopP_no1 (f := f) (k := k) (inB_no.2 (.inl h1)))
        go_wp2
        go_ret
        exact ⟨ret_bool (allB_no hlt HN.out).symm, rfl⟩
      · by_cases h2 : 39 < f k
        · have HN := Lib.hid (stopP_no1 (f := f) (k := k) (inB_no.2 (.inr h2)))
          go_wp2
          go_ret
          exact ⟨ret_bool (allB_no hlt HN.out).symm, rfl⟩
        · have hp : inB (f k) 1 39 = true := inB_iff.2 ⟨by omega, by omega⟩
          by_cases h0 : 0 < k
          · by_cases h3 : f (k - 1) < f k
            · have HN := Lib.hid (stopP_yes hp h3)
              clear hp
              go_wp2
              go_round
              case rel => exact ⟨k + 1, by omega, by go_num, allB_succ HK.out HN.out⟩
              case measure => simp [intOf]; omega
            · have HN := Lib.hid (stopP_no2 h0 (by omega : f k ≤ f (k - 1)))
              clear hp
              go_wp2
              go_ret
              exact ⟨ret_bool (allB_no hlt HN.out).symm, rfl⟩
          · have HN := Lib.hid (stopP_zero hp (by omega))
            clear hp
            go_wp2
            go_round
            case rel => exact ⟨k + 1, by omega, by go_num, allB_succ HK.out HN.out⟩
            case measure => simp [intOf]; omega
    · obtain rfl : k = n := by omega
      go_wp2
      go_ret
      exact ⟨ret_bool HK.out.symm, rfl⟩

theorem impl_PartsValid {w : World} {B : Nat} {A : Option Addr} {n c : Nat} {f : Nat → Int} (hn : n ≤ 9223372036854775806) (hs : Ints w B A n f) :
    Calls Try.prog 18 #[.slice A n c] w fun e w' => e = .returned (.bool (partsB f n)) ∧ w = w' := by
  by_cases h5 : n ≤ 5
  · go_enter Try.func18, Try.ntmps18
    go_wp2
    go_loop [10] (fun s => ∃ k : Nat, k ≤ n ∧ s = .int .i64 k ∧ Hid (allB (partP f) k = true)) (fun s => n - (intOf s).toNat)
    case atStart => exact ⟨0, Nat.zero_le _, rfl, rfl⟩
    case round =>
      obtain ⟨k, hk, rfl, HK⟩ := hrel
      by_cases hlt : k < n
      · obtain ⟨b, off, rfl, _, hc⟩ := hs (by omega)
        have c0 := hc k hlt
        clear hc hs
        cases hp : inB (f k) 1 40
        · have HN := Lib.hid (show partP f k = false from hp)
          go_wp2_with (go_at_call 35; refine (tripsValid_any _ _).mono ?_; rintro e w' ⟨rfl, rfl⟩)
          go_ret
          exact ⟨ret_bool (by simp [partsB, allB_no hlt HN.out]), rfl⟩
        · have HN := Lib.hid (show partP f k = true from hp)
          go_wp2_with (go_at_call 35; refine (tripsValid_any _ _).mono ?_; rintro e w' ⟨rfl, rfl⟩)
          go_round
          case rel => exact ⟨k + 1, by omega, by go_num, allB_succ HK.out HN.out⟩
          case measure => simp [intOf]; omega
      · obtain rfl : k = n := by omega
        go_wp2
        go_ret
        exact ⟨ret_bool (by simp [partsB, HK.out]; omega), rfl⟩
  · go_enter Try.func18, Try.ntmps18
    go_wp2
    go_ret
    exact ⟨ret_bool (by simp [partsB]; omega), rfl⟩

theorem spec_PartsValid {w : World} {B : Nat} {A : Option Addr} {n c : Nat} {f : Nat → Int} (hn : n ≤ 9223372036854775806) (hs : Ints w B A n f) :
    Calls Try.prog 17 #[.slice A n c] w fun e w' => e = .returned (.bool (partsB f n)) ∧ Drew w w' := by
  go_enter Try.func17, Try.ntmps17
  go_wp2
  go_loopw [3] (fun s wr => ∃ k : Nat, k ≤ n ∧ s = .int .i64 k ∧ Hid (allB (partP f) k = true) ∧ Drew w wr) (fun s _ => n - (intOf s).toNat)
  case atStart => exact ⟨0, Nat.zero_le _, rfl, rfl, Drew.refl _⟩
  case round =>
    obtain ⟨k, hk, rfl, HK, m, rfl⟩ := hrel
    by_cases hlt : k < n
    · obtain ⟨b, off, rfl, _, hc⟩ := hs (by omega)
      have c0 := hc k hlt
      clear hc hs
      cases hp : inB (f k) 1 40
      · have HN := Lib.hid (show partP f k = false from hp)
        go_wp2_with (go_at_call 34; refine (l1In_any _ _ _ _).mono ?_; rintro e w' ⟨rfl, rfl⟩)
        go_ret
        exact ⟨ret_bool (by simp [partsB, allB_no hlt HN.out]), (Drew.refl _).n _⟩
      · have HN := Lib.hid (show partP f k = true from hp)
        go_wp2_with (go_at_call 34; refine (l1In_any _ _ _ _).mono ?_; rintro e w' ⟨rfl, rfl⟩)
        go_roundw
        case rel => exact ⟨k + 1, by omega, by go_num, allB_succ HK.out HN.out, (Drew.refl _).n _⟩
        case measure => simp [intOf]; omega
    · obtain rfl : k = n := by omega
      go_wp2
      go_ret
      exact ⟨ret_bool (by rw [Bool.eq_iff_iff]; simp [partsB, HK.out]; omega), (Drew.refl _).n _⟩
end Go.Proofs.Ytnpignenikkmiaa
