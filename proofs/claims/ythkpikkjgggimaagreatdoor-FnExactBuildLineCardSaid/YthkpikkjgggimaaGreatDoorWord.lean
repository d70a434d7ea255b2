/-
  The contracts of readNumber, the program's, and l1Read, the reference's. No claim stands here.
-/
import Derived.Test.YthkpikkjgggimaaGreatDoorNum
namespace Go.Proofs.YthkpikkjgggimaaGreatDoor
open Go.RowKit
set_option linter.unusedVariables false
set_option linter.unusedSimpArgs false

/-- The byte at a place of a text. -/
def byteAt (s : ByteArray) (k : Nat) : Nat := if h : k < s.size then s[k].toNat else 0
theorem byteAt_of {s : ByteArray} {k : Nat} (h : k < s.size) : s[k].toNat = byteAt s k := by simp [byteAt, h]
theorem byteAt_lt (s : ByteArray) (k : Nat) : byteAt s k < 256 := by
  unfold byteAt
  split
  · exact UInt8.toNat_lt _
  · omega
def digP (s : ByteArray) (k : Nat) : Bool := decide (48 ≤ byteAt s k) && decide (byteAt s k ≤ 57)
theorem digP_iff {s : ByteArray} {k : Nat} : digP s k = true ↔ 48 ≤ byteAt s k ∧ byteAt s k ≤ 57 := by simp [digP]
/-- The number that the first k digits are. -/
def numTo (s : ByteArray) : Nat → Nat
  | 0 => 0
  | k + 1 => 10 * numTo s k + (byteAt s k - 48)
/-- A text that is a number of one to three digits without leading zeros. -/
def wordOk (s : ByteArray) : Bool := decide (1 ≤ s.size) && decide (s.size ≤ 3) && !(decide (1 < s.size) && decide (byteAt s 0 = 48)) && allB (digP s) s.size
theorem wordOk_no1 {s : ByteArray} (h : s.size < 1 ∨ 3 < s.size ∨ (1 < s.size ∧ byteAt s 0 = 48)) : wordOk s = false := by
  rw [Bool.eq_false_iff]; intro h'
  simp [wordOk] at h'
  obtain ⟨⟨⟨a, b⟩, c⟩, _⟩ := h'
  rcases h with h | h | ⟨h, h2⟩
  · omega
  · omega
  · rcases c with c | c
    · omega
    · exact c h2
theorem wordOk_no2 {s : ByteArray} {k : Nat} (hk : k < s.size) (h : byteAt s k < 48 ∨ 57 < byteAt s k) : wordOk s = false := by
  rw [Bool.eq_false_iff]; intro h'
  simp only [wordOk, Bool.and_eq_true] at h'
  have := digP_iff.1 (allB_iff.1 h'.2 k hk)
  omega
theorem wordOk_yes {s : ByteArray} (h1 : 1 ≤ s.size) (h3 : s.size ≤ 3) (h0 : ¬ (1 < s.size ∧ byteAt s 0 = 48)) (h : allB (digP s) s.size = true) : wordOk s = true := by
  simp only [wordOk, h, Bool.and_true, Bool.and_eq_true, decide_eq_true_eq, h1, h3, true_and]
  simp only [Bool.not_eq_true', Bool.and_eq_false_iff, decide_eq_false_iff_not]
  exact Classical.not_and_iff_not_or_not.1 h0
theorem numTo_lt {s : ByteArray} : ∀ k, allB (digP s) k = true → numTo s k < 10 ^ k
  | 0, _ => by simp [numTo]
  | k + 1, h => by
    have h1 := numTo_lt k (by rw [allB_iff] at h ⊢; exact fun i hi => h i (by omega))
    have h2 := digP_iff.1 (allB_iff.1 h k (by omega))
    rw [Nat.pow_succ, numTo]
    omega
theorem numTo_1000 {s : ByteArray} {k : Nat} (hk : k ≤ 3) (h : allB (digP s) k = true) : numTo s k < 1000 := by
  have h1 := numTo_lt k h
  have h2 : 10 ^ k ≤ 10 ^ 3 := Nat.pow_le_pow_right (by omega) hk
  omega
/-- What the text reads as. -/
def wordNo (s : ByteArray) : Int := if wordOk s = true then (numTo s s.size : Int) else -1
def wordN (s : ByteArray) : Int := if wordOk s = true then (numTo s s.size : Int) else 0
theorem wordNo_no {s : ByteArray} (h : wordOk s = false) : wordNo s = -1 := by simp [wordNo, h]
theorem wordNo_yes {s : ByteArray} (h : wordOk s = true) : wordNo s = (numTo s s.size : Int) := by simp [wordNo, h]
theorem wordN_no {s : ByteArray} (h : wordOk s = false) : wordN s = 0 := by simp [wordN, h]
theorem wordN_yes {s : ByteArray} (h : wordOk s = true) : wordN s = (numTo s s.size : Int) := by simp [wordN, h]

theorem word_cases (s : ByteArray) : s.size < 1 ∨ 3 < s.size ∨ (1 ≤ s.size ∧ s.size ≤ 3 ∧ 1 < s.size ∧ byteAt s 0 = 48) ∨ (1 ≤ s.size ∧ s.size ≤ 3 ∧ 1 < s.size ∧ byteAt s 0 ≠ 48) ∨ (1 ≤ s.size ∧ s.size ≤ 3 ∧ ¬ 1 < s.size) := by omega

set_option maxHeartbeats 800000 in
theorem impl_readNumber (s : ByteArray) (hs : s.size ≤ 9223372036854775806) (w : World) :
    Calls Tryz.prog 50 #[.string s] w fun e w' => e = .returned (.tuple #[.int .i64 (wordN s), .bool (wordOk s)]) ∧ w' = w := by
  rcases word_cases s with h1 | h2 | ⟨h1, h2, h3, h4⟩ | ⟨h1, h2, h3, h4⟩ | ⟨h1, h2, h3⟩
  · have HN := Lib.hid (wordOk_no1 (.inl h1))
    have j1 : (s.size : Int) < 1 := by omega
    go_enter Tryz.func50, Tryz.ntmps50
    go_wp2
    exact bodyPost_ret (v := .tuple #[.int .i64 0, .bool false]) (by simp [results, Tryz.results50, go_sem]) rfl ⟨by rw [wordN_no HN.out, HN.out], rfl⟩
  · have HN := Lib.hid (wordOk_no1 (.inr (.inl h2)))
    have j1 : ¬ (s.size : Int) < 1 := by omega
    have j2 : 3 < (s.size : Int) := by omega
    go_enter Tryz.func50, Tryz.ntmps50
    go_wp2
    exact bodyPost_ret (v := .tuple #[.int .i64 0, .bool false]) (by simp [results, Tryz.results50, go_sem]) rfl ⟨by rw [wordN_no HN.out, HN.out], rfl⟩
  · have HN := Lib.hid (wordOk_no1 (.inr (.inr ⟨h3, h4⟩)))
    have j1 : ¬ (s.size : Int) < 1 := by omega
    have j2 : ¬ 3 < (s.size : Int) := by omega
    have j3 : 1 < (s.size : Int) := by omega
    have j0 : 0 < s.size := by omega
    have j4 : s[0].toNat = 48 := (byteAt_of j0).trans h4
    clear h1 h2 h3 h4 hs
    go_enter Tryz.func50, Tryz.ntmps50
    go_wp2
    exact bodyPost_ret (v := .tuple #[.int .i64 0, .bool false]) (by simp [results, Tryz.results50, go_sem]) rfl ⟨by rw [wordN_no HN.out, HN.out], rfl⟩
  all_goals
    have H0 : Hid (¬ (1 < s.size ∧ byteAt s 0 = 48)) := by first | exact fun h => h4 h.2 | exact fun h => h3 h.1
    have j1 : ¬ (s.size : Int) < 1 := by omega
    have j2 : ¬ 3 < (s.size : Int) := by omega
    have j0 : 0 < s.size := by omega
    have H4 : Hid (1 < s.size → s[0].toNat ≠ 48) := by first | exact fun _ => by rw [byteAt_of j0]; exact h4 | exact fun h => absurd h h3
    have H12 := Lib.hid (And.intro h1 h2)
    first | (have j3 : 1 < (s.size : Int) := by omega) | (have j3 : ¬ 1 < (s.size : Int) := by omega)
    first | (have j4 := H4.out (by omega)) | skip
    clear h1 h2 hs
    try clear h4
    clear h3
    go_enter Tryz.func50, Tryz.ntmps50
    go_wp2
    go_loop [4, 5] (fun s4 s5 => ∃ k : Nat, k ≤ s.size ∧ s4 = .int .i64 (numTo s k) ∧ s5 = .int .i64 k ∧ Hid (allB (digP s) k = true)) (fun _ s5 => s.size - (intOf s5).toNat)
    case atStart => exact ⟨0, Nat.zero_le _, rfl, rfl, rfl⟩
    case round =>
      obtain ⟨k, hk, rfl, rfl, HK⟩ := hrel
      have hnum := numTo_1000 (k := k) (by have := H12.out.2; omega) HK.out
      by_cases hlt : k < s.size
      · have hb := byteAt_of hlt
        have hst : numTo s (k + 1) = 10 * numTo s k + (byteAt s k - 48) := rfl
        by_cases d1 : byteAt s k < 48
        · have HN := Lib.hid (wordOk_no2 hlt (.inl d1))
          have e1 : ((s[k].toNat : Nat) : Int) < 48 := by omega
          clear hst
          go_wp2
          exact bodyPost_ret (v := .tuple #[.int .i64 0, .bool false]) (by simp [results, Tryz.results50, go_sem]) rfl ⟨by rw [wordN_no HN.out, HN.out], rfl⟩
        · by_cases d2 : 57 < byteAt s k
          · have HN := Lib.hid (wordOk_no2 hlt (.inr d2))
            have e1 : ¬ ((s[k].toNat : Nat) : Int) < 48 := by omega
            have e2 : 57 < ((s[k].toNat : Nat) : Int) := by omega
            clear hst
            go_wp2
            exact bodyPost_ret (v := .tuple #[.int .i64 0, .bool false]) (by simp [results, Tryz.results50, go_sem]) rfl ⟨by rw [wordN_no HN.out, HN.out], rfl⟩
          · have HD : Hid (digP s k = true) := digP_iff.2 ⟨by omega, by omega⟩
            have e1 : ¬ ((s[k].toNat : Nat) : Int) < 48 := by omega
            have e2 : ¬ 57 < ((s[k].toNat : Nat) : Int) := by omega
            have e3 : IntKind.u8.wrap ((s[k].toNat : Int) - 48) = ((byteAt s k - 48 : Nat) : Int) := (IntWalk.u8_in _ (by omega)).trans (by omega)
            have HST := Lib.hid hst
            clear hst
            go_wp2
            exact ⟨⟨k + 1, by omega, by rw [HST.out]; congr 1; omega, by go_num, allB_succ HK.out HD.out⟩, by simp [intOf]; omega⟩
      · obtain rfl : k = s.size := by omega
        have HN := Lib.hid (wordOk_yes H12.out.1 H12.out.2 H0.out HK.out)
        go_wp2
        exact bodyPost_ret (v := .tuple #[.int .i64 (numTo s s.size), .bool true]) (by simp [results, Tryz.results50, go_sem]) rfl ⟨by rw [wordN_yes HN.out, HN.out], rfl⟩
set_option maxHeartbeats 800000 in
theorem spec_l1Read (s : ByteArray) (hs : s.size ≤ 9223372036854775806) (w : World) :
    Calls Tryz.prog 60 #[.string s] w fun e w' => e = .returned (.int .i64 (wordNo s)) ∧ w' = w := by
  rcases word_cases s with h1 | h2 | ⟨h1, h2, h3, h4⟩ | ⟨h1, h2, h3, h4⟩ | ⟨h1, h2, h3⟩
  · have HN := Lib.hid (wordOk_no1 (.inl h1))
    have j1 : inB (s.size : Int) 1 3 = false := inB_no.2 (.inl (by omega))
    go_enter Tryz.func60, Tryz.ntmps60
    go_wp2_with (go_at_call 40; refine (l1In_any _ _ _ _).mono ?_; rintro e w' ⟨rfl, rfl⟩)
    go_ret
    exact ⟨by rw [wordNo_no HN.out]; rfl, rfl⟩
  · have HN := Lib.hid (wordOk_no1 (.inr (.inl h2)))
    have j1 : inB (s.size : Int) 1 3 = false := inB_no.2 (.inr (by omega))
    go_enter Tryz.func60, Tryz.ntmps60
    go_wp2_with (go_at_call 40; refine (l1In_any _ _ _ _).mono ?_; rintro e w' ⟨rfl, rfl⟩)
    go_ret
    exact ⟨by rw [wordNo_no HN.out]; rfl, rfl⟩
  · have HN := Lib.hid (wordOk_no1 (.inr (.inr ⟨h3, h4⟩)))
    have j1 : inB (s.size : Int) 1 3 = true := inB_iff.2 ⟨by omega, by omega⟩
    have j3 : 1 < (s.size : Int) := by omega
    have j0 : 0 < s.size := by omega
    have j4 : s[0].toNat = 48 := (byteAt_of j0).trans h4
    clear h1 h2 h3 h4 hs
    go_enter Tryz.func60, Tryz.ntmps60
    go_wp2_with (go_at_call 40; refine (l1In_any _ _ _ _).mono ?_; rintro e w' ⟨rfl, rfl⟩)
    go_ret
    exact ⟨by rw [wordNo_no HN.out]; rfl, rfl⟩
  all_goals
    have H0 : Hid (¬ (1 < s.size ∧ byteAt s 0 = 48)) := by first | exact fun h => h4 h.2 | exact fun h => h3 h.1
    have j1 : inB (s.size : Int) 1 3 = true := inB_iff.2 ⟨by omega, by omega⟩
    have j0 : 0 < s.size := by omega
    have H4 : Hid (1 < s.size → s[0].toNat ≠ 48) := by first | exact fun _ => by rw [byteAt_of j0]; exact h4 | exact fun h => absurd h h3
    have H12 := Lib.hid (And.intro h1 h2)
    first | (have j3 : 1 < (s.size : Int) := by omega) | (have j3 : ¬ 1 < (s.size : Int) := by omega)
    first | (have j4 := H4.out (by omega)) | skip
    clear h1 h2 hs
    try clear h4
    clear h3
    go_enter Tryz.func60, Tryz.ntmps60
    go_wp2_with (go_at_call 40; refine (l1In_any _ _ _ _).mono ?_; rintro e w' ⟨rfl, rfl⟩)
    go_loop [3, 4] (fun s4 s5 => ∃ k : Nat, k ≤ s.size ∧ s4 = .int .i64 (numTo s k) ∧ s5 = .int .i64 k ∧ Hid (allB (digP s) k = true)) (fun _ s5 => s.size - (intOf s5).toNat)
    case atStart => exact ⟨0, Nat.zero_le _, rfl, rfl, rfl⟩
    case round =>
      obtain ⟨k, hk, rfl, rfl, HK⟩ := hrel
      have j2 : (s.size : Int) ≤ 3 := by have := H12.out.2; omega
      have hnum := numTo_1000 (k := k) (by have := H12.out.2; omega) HK.out
      by_cases hlt : k < s.size
      · have hb := byteAt_of hlt
        have hst : numTo s (k + 1) = 10 * numTo s k + (byteAt s k - 48) := rfl
        by_cases d1 : byteAt s k < 48
        · have HN := Lib.hid (wordOk_no2 hlt (.inl d1))
          have e1 : ((s[k].toNat : Nat) : Int) < 48 := by omega
          clear hst
          go_wp2
          go_ret
          exact ⟨by rw [wordNo_no HN.out]; rfl, rfl⟩
        · by_cases d2 : 57 < byteAt s k
          · have HN := Lib.hid (wordOk_no2 hlt (.inr d2))
            have e1 : ¬ ((s[k].toNat : Nat) : Int) < 48 := by omega
            have e2 : 57 < ((s[k].toNat : Nat) : Int) := by omega
            clear hst
            go_wp2
            go_ret
            exact ⟨by rw [wordNo_no HN.out]; rfl, rfl⟩
          · have HD : Hid (digP s k = true) := digP_iff.2 ⟨by omega, by omega⟩
            have e1 : ¬ ((s[k].toNat : Nat) : Int) < 48 := by omega
            have e2 : ¬ 57 < ((s[k].toNat : Nat) : Int) := by omega
            have e3 : IntKind.u8.wrap ((s[k].toNat : Int) - 48) = ((byteAt s k - 48 : Nat) : Int) := (IntWalk.u8_in _ (by omega)).trans (by omega)
            have HST := Lib.hid hst
            clear hst
            go_wp2
            first
              | exact ⟨⟨k + 1, by omega, by rw [HST.out]; congr 1; omega, by go_num, allB_succ HK.out HD.out⟩, by simp [intOf]; omega⟩
              | (refine ⟨⟨_, _, _, ⟨k + 1, by omega, ?_, ?_, allB_succ HK.out HD.out⟩, rfl, rfl, rfl⟩, by simp [intOf]; omega⟩
                 · rw [HST.out]; congr 1; omega
                 · go_num)
      · obtain rfl : k = s.size := by omega
        have HN := Lib.hid (wordOk_yes H12.out.1 H12.out.2 H0.out HK.out)
        go_wp2
        go_ret
        exact ⟨by rw [wordNo_yes HN.out]; rfl, rfl⟩
end Go.Proofs.YthkpikkjgggimaaGreatDoor
