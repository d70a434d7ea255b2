/-
  The contracts of the small functions that only read slices of numbers: eqIntS, sameInts, sumOf, l18Sum, allWithin, heldIntS. No claim stands here.
-/
import Derived.Test.YtailpiagjemhpaaTrips
namespace Go.Proofs.Ytailpiagjemhpaa
open Go.RowKit
set_option linter.unusedVariables false
set_option linter.unusedSimpArgs false

/-- The numbers of two slices are the same. -/
def eqP (f g : Nat → Int) (i : Nat) : Bool := f i == g i
def eqB (f : Nat → Int) (n : Nat) (g : Nat → Int) (m : Nat) : Bool := n == m && allB (eqP f g) n
theorem eqB_iff {f : Nat → Int} {n : Nat} {g : Nat → Int} {m : Nat} : eqB f n g m = true ↔ n = m ∧ ∀ i, i < n → f i = g i := by
  simp [eqB, allB_iff, eqP]
theorem eqB_refl (f : Nat → Int) (n : Nat) : eqB f n f n = true := eqB_iff.2 ⟨rfl, fun _ _ => rfl⟩

theorem eqIntS_any {w : World} {B B' : Nat} {A A' : Option Addr} {n m c c' : Nat} {f g : Nat → Int} (hn : n ≤ 9223372036854775806) (hs : Ints w B A n f) (hs' : Ints w B' A' m g) :
    Calls Try.prog 51 #[.slice A n c, .slice A' m c'] w fun e w' => e = .returned (.bool (eqB f n g m)) ∧ Drew w w' := by
  by_cases hnm : n = m
  · subst hnm
    go_enter Try.func51, Try.ntmps51
    go_wp2
    go_loopw [5] (fun s5 wr => ∃ k : Nat, k ≤ n ∧ s5 = .int .i64 k ∧ Hid (allB (eqP f g) k = true) ∧ Drew w wr) (fun s5 _ => n - (intOf s5).toNat)
    case atStart => exact ⟨0, Nat.zero_le _, rfl, rfl, Drew.refl _⟩
    case round =>
      obtain ⟨k, hk, rfl, HK, m, rfl⟩ := hrel
      by_cases hlt : k < n
      · obtain ⟨b, off, rfl, _, hc⟩ := hs (by omega)
        obtain ⟨b', off', rfl, _, hc'⟩ := hs' (by omega)
        have c0 := hc k hlt
        have c1 := hc' k hlt
        clear hc hs hc' hs'
        by_cases h1 : f k = g k
        · have HN := Lib.hid (show eqP f g k = true by simp [eqP, h1])
          have he : (f k == g k) = true := by simp [h1]
          clear h1
          go_wp2
          go_quiet (fail)
          go_wp2
          go_roundw
          case rel => exact ⟨k + 1, by omega, by go_num, allB_succ HK.out HN.out, by first | exact ⟨_, rfl⟩ | exact ⟨_, World.drewN_drewN _ _ _⟩⟩
          case measure => simp [intOf]; omega
        · have HN := Lib.hid (show eqP f g k = false by simp [eqP, h1])
          have he : (f k == g k) = false := by simp [h1]
          clear h1
          go_wp2
          go_quiet (fail)
          go_wp2
          go_ret
          exact ⟨ret_bool (by simp [eqB, allB_no hlt HN.out]), (Drew.refl _).n _ |>.n _⟩
      · obtain rfl : k = n := by omega
        go_wp2
        go_ret
        exact ⟨ret_bool (by simp [eqB, HK.out]), (Drew.refl _).n _⟩
  · have he : ((n : Int) == (m : Int)) = false := by simp; omega
    have HN := Lib.hid (show eqB f n g m = false by simp [eqB, hnm])
    clear hnm
    go_enter Try.func51, Try.ntmps51
    go_wp2
    go_ret
    exact ⟨ret_bool HN.out.symm, Drew.refl _⟩
theorem sameInts_any {w : World} {B B' : Nat} {A A' : Option Addr} {n m c c' : Nat} {f g : Nat → Int} (hn : n ≤ 9223372036854775806) (hs : Ints w B A n f) (hs' : Ints w B' A' m g) :
    Calls Try.prog 45 #[.slice A n c, .slice A' m c'] w fun e w' => e = .returned (.bool (eqB f n g m)) ∧ Drew w w' := by
  by_cases hnm : n = m
  · subst hnm
    go_enter Try.func45, Try.ntmps45
    go_wp2
    go_loopw [5] (fun s5 wr => ∃ k : Nat, k ≤ n ∧ s5 = .int .i64 k ∧ Hid (allB (eqP f g) k = true) ∧ Drew w wr) (fun s5 _ => n - (intOf s5).toNat)
    case atStart => exact ⟨0, Nat.zero_le _, rfl, rfl, Drew.refl _⟩
    case round =>
      obtain ⟨k, hk, rfl, HK, m, rfl⟩ := hrel
      by_cases hlt : k < n
      · obtain ⟨b, off, rfl, _, hc⟩ := hs (by omega)
        obtain ⟨b', off', rfl, _, hc'⟩ := hs' (by omega)
        have c0 := hc k hlt
        have c1 := hc' k hlt
        clear hc hs hc' hs'
        by_cases h1 : f k = g k
        · have HN := Lib.hid (show eqP f g k = true by simp [eqP, h1])
          have he : (f k == g k) = true := by simp [h1]
          clear h1
          go_wp2
          go_quiet (fail)
          go_wp2
          go_roundw
          case rel => exact ⟨k + 1, by omega, by go_num, allB_succ HK.out HN.out, by first | exact ⟨_, rfl⟩ | exact ⟨_, World.drewN_drewN _ _ _⟩⟩
          case measure => simp [intOf]; omega
        · have HN := Lib.hid (show eqP f g k = false by simp [eqP, h1])
          have he : (f k == g k) = false := by simp [h1]
          clear h1
          go_wp2
          go_quiet (fail)
          go_wp2
          go_ret
          exact ⟨ret_bool (by simp [eqB, allB_no hlt HN.out]), (Drew.refl _).n _ |>.n _⟩
      · obtain rfl : k = n := by omega
        go_wp2
        go_ret
        exact ⟨ret_bool (by simp [eqB, HK.out]), (Drew.refl _).n _⟩
  · have he : ((n : Int) == (m : Int)) = false := by simp; omega
    have HN := Lib.hid (show eqB f n g m = false by simp [eqB, hnm])
    clear hnm
    go_enter Try.func45, Try.ntmps45
    go_wp2
    go_ret
    exact ⟨ret_bool HN.out.symm, Drew.refl _⟩
end Go.Proofs.Ytailpiagjemhpaa
