/-
  The contracts of the small functions on numbers: l1In, roomValid, roundedUp, tripsValid, TripsFor. No claim stands here.
-/
import Derived.Test.YthbphjfaeklfdaaBase
namespace Go.Proofs.Ythbphjfaeklfdaa
open Go.RowKit
set_option linter.unusedVariables false

/-- spec.l1In. -/
theorem l1In_any (n lo hi : Int) (w : World) : Calls Try.prog 32 #[.int .i64 n, .int .i64 lo, .int .i64 hi] w fun e w' => e = .returned (.bool (inB n lo hi)) ∧ w = w' := by
  by_cases h1 : lo ≤ n
  · by_cases h2 : n ≤ hi
    all_goals
      go_enter Try.func32, Try.ntmps32
      go_wp2
      go_ret
      exact ⟨ret_bool (by rw [Bool.eq_iff_iff, inB_iff]; simp; omega), rfl⟩
  · go_enter Try.func32, Try.ntmps32
    go_wp2
    go_ret
    exact ⟨ret_bool (by rw [Bool.eq_iff_iff, inB_iff]; simp; omega), rfl⟩

/-- impl.roomValid. -/
theorem roomValid_any (r : Int) (w : World) : Calls Try.prog 33 #[.int .i64 r] w fun e w' => e = .returned (.bool (inB r 1 8)) ∧ w = w' := by
  by_cases h1 : 1 ≤ r
  · by_cases h2 : r ≤ 8
    all_goals
      go_enter Try.func33, Try.ntmps33
      go_wp2
      go_ret
      exact ⟨ret_bool (by rw [Bool.eq_iff_iff, inB_iff]; simp; omega), rfl⟩
  · go_enter Try.func33, Try.ntmps33
    go_wp2
    go_ret
    exact ⟨ret_bool (by rw [Bool.eq_iff_iff, inB_iff]; simp; omega), rfl⟩

/-- impl.roundedUp. -/
theorem roundedUp_any (p r : Int) (h0 : 0 ≤ p) (h1 : p ≤ 1000000) (h2 : 1 ≤ r) (h3 : r ≤ 8) (w : World) :
    Calls Try.prog 34 #[.int .i64 p, .int .i64 r] w fun e w' => e = .returned (.int .i64 (roundUp p r)) ∧ w = w' := by
  have hr : (r == 0) = false := by simp; omega
  go_enter Try.func34, Try.ntmps34
  go_wp2
  go_ret
  exact ⟨rfl, rfl⟩

/-- What TripsFor returns. -/
def tripsFor (p r : Int) : Int := if (inB p 0 30 && inB r 1 8) = true then roundUp p r else -1
theorem tripsFor_yes {p r : Int} (h : inB p 0 30 = true) (h' : inB r 1 8 = true) : tripsFor p r = roundUp p r := by simp [tripsFor, h, h']
theorem tripsFor_no {p r : Int} (h : inB p 0 30 = false ∨ inB r 1 8 = false) : tripsFor p r = -1 := by
  rcases h with h | h <;> simp [tripsFor, h]

theorem impl_TripsFor (p r : Int) (w : World) : Calls Try.prog 14 #[.int .i64 p, .int .i64 r] w fun e w' => e = .returned (.int .i64 (tripsFor p r)) ∧ w = w' := by
  cases hp : inB p 0 30
  · have H := Lib.hid (tripsFor_no (p := p) (r := r) (.inl hp))
    rcases inB_no.1 hp with h | h
    · clear hp
      go_enter Try.func14, Try.ntmps14
      go_wp2
      go_ret
      exact ⟨ret_int H.out.symm, rfl⟩
    · have h0 : ¬ p < 0 := by omega
      clear hp
      go_enter Try.func14, Try.ntmps14
      go_wp2
      go_ret
      exact ⟨ret_int H.out.symm, rfl⟩
  · obtain ⟨h0, h1⟩ := inB_iff.1 hp
    cases hr : inB r 1 8
    · have H := Lib.hid (tripsFor_no (p := p) (r := r) (.inr hr))
      clear hp
      go_enter Try.func14, Try.ntmps14
      go_wp2_with (go_at_call 33; refine (roomValid_any r _).mono ?_; rintro e w' ⟨rfl, rfl⟩)
      go_ret
      exact ⟨ret_int H.out.symm, rfl⟩
    · have H := Lib.hid (tripsFor_yes hp hr)
      obtain ⟨h2, h3⟩ := inB_iff.1 hr
      clear hp
      go_enter Try.func14, Try.ntmps14
      go_wp2_with (first
        | (go_at_call 33; refine (roomValid_any r _).mono ?_; rintro e w' ⟨rfl, rfl⟩)
        | (go_at_call 34; refine (roundedUp_any p r h0 (by omega) h2 h3 _).mono ?_; rintro e w' ⟨rfl, rfl⟩))
      go_ret
      exact ⟨ret_int H.out.symm, rfl⟩

theorem spec_TripsFor (p r : Int) (w : World) : Calls Try.prog 13 #[.int .i64 p, .int .i64 r] w fun e w' => e = .returned (.int .i64 (tripsFor p r)) ∧ w = w' := by
  cases hp : inB p 0 30
  · have H := Lib.hid (tripsFor_no (p := p) (r := r) (.inl hp))
    go_enter Try.func13, Try.ntmps13
    go_wp2_with (go_at_call 32; refine (l1In_any _ _ _ _).mono ?_; rintro e w' ⟨rfl, rfl⟩)
    go_ret
    exact ⟨ret_int H.out.symm, rfl⟩
  · obtain ⟨h0, h1⟩ := inB_iff.1 hp
    cases hr : inB r 1 8
    · have H := Lib.hid (tripsFor_no (p := p) (r := r) (.inr hr))
      go_enter Try.func13, Try.ntmps13
      go_wp2_with (go_at_call 32; refine (l1In_any _ _ _ _).mono ?_; rintro e w' ⟨rfl, rfl⟩)
      go_ret
      exact ⟨ret_int H.out.symm, rfl⟩
    · have H := Lib.hid (tripsFor_yes hp hr)
      obtain ⟨h2, h3⟩ := inB_iff.1 hr
      have hz : (r == 0) = false := by simp; omega
      go_enter Try.func13, Try.ntmps13
      go_wp2_with (go_at_call 32; refine (l1In_any _ _ _ _).mono ?_; rintro e w' ⟨rfl, rfl⟩)
      go_ret
      exact ⟨ret_int H.out.symm, rfl⟩


/-- laws.FnExactTripsFor. -/
theorem law_ExactTripsFor (p r : Int) (w : World) : Calls Try.prog 3 #[.int .i64 p, .int .i64 r] w fun e w' => e = .returned (.bool true) ∧ w = w' := by
  go_enter Try.func3, Try.ntmps3
  go_wp2_with (first
    | (go_at_call 14; refine (impl_TripsFor p r _).mono ?_; rintro e w' ⟨rfl, rfl⟩)
    | (go_at_call 13; refine (spec_TripsFor p r _).mono ?_; rintro e w' ⟨rfl, rfl⟩))
  go_ret
  exact ⟨rfl, rfl⟩

end Go.Proofs.Ythbphjfaeklfdaa
