/-
  The contract of sumOf. No claim stands here.
-/
import Derived.Test.YthbphjfaeklfdaaBase
namespace Go.Proofs.Ythbphjfaeklfdaa
open Go.RowKit
set_option linter.unusedVariables false
set_option linter.unusedSimpArgs false

/-- A sum of numbers that cannot wrap. -/
theorem sum_small {f : Nat → Int} {n : Nat} (hb : ∀ i, i < n → 0 ≤ f i ∧ f i ≤ 1000000) (hn : n ≤ 1000000) : ∀ k, k ≤ n → 0 ≤ sumTo f k ∧ sumTo f k ≤ 1000000000000 := by
  intro k hk
  have := sumTo_bound hb k hk
  omega

theorem sumOf_any {w : World} {B : Nat} {A : Option Addr} {n c : Nat} {f : Nat → Int} (hb : ∀ i, i < n → 0 ≤ f i ∧ f i ≤ 1000000) (hn : n ≤ 1000000) (hs : Ints w B A n f) :
    Calls Try.prog 29 #[.slice A n c] w fun e w' => e = .returned (.int .i64 (sumTo f n)) ∧ w = w' := by
  have HS := Lib.hid (sum_small hb hn)
  have HB := Lib.hid hb
  clear hb
  go_enter Try.func29, Try.ntmps29
  go_wp2
  go_loop [3, 4] (fun s3 s4 => ∃ k : Nat, k ≤ n ∧ s4 = .int .i64 k ∧ s3 = .int .i64 (sumTo f k)) (fun _ s4 => n - (intOf s4).toNat)
  case atStart => exact ⟨0, Nat.zero_le _, rfl, rfl⟩
  case round =>
    obtain ⟨k, hk, rfl, rfl⟩ := hrel
    obtain ⟨b1, b2⟩ := HS.out k hk
    by_cases hlt : k < n
    · obtain ⟨b, off, rfl, _, hc⟩ := hs (by omega)
      have c0 := hc k hlt
      obtain ⟨d1, d2⟩ := HB.out k hlt
      clear hc hs
      go_wp2
      go_round
      case rel => exact ⟨k + 1, by omega, by go_num, rfl⟩
      case measure => simp [intOf]; omega
    · obtain rfl : k = n := by omega
      go_wp2
      go_ret
      exact ⟨rfl, rfl⟩
end Go.Proofs.Ythbphjfaeklfdaa
