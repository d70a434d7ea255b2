/-
  Texts Text, Word, BitT, CallsT, KindT, NumI, CutZ, Told, LineM in one. No claim stands here.
-/
import Derived.Test.YthkpikkjgggimaaGreatDoorNum
import Derived.Test.YthkpikkjgggimaaGreatDoorShelf
import Derived.Test.YthkpikkjgggimaaGreatDoorBC
import Derived.Test.YthkpikkjgggimaaGreatDoorBD
import Derived.Laws.Cells
import Derived.Test.YthkpikkjgggimaaGreatDoorBT
import Derived.Test.YthkpikkjgggimaaGreatDoorBB
import Derived.Lib.AppendIntMem
import Derived.Lib.CutLaws
import Derived.Lib.IndexLaws
import Derived.Lib.IndexBytes
import Derived.Test.YthkpikkjgggimaaGreatDoorMany
import Derived.Test.YthkpikkjgggimaaGreatDoorCallM
import Derived.Test.YthkpikkjgggimaaGreatDoorBF
namespace Go.Proofs.YthkpikkjgggimaaGreatDoor
open Go.RowKit
set_option linter.unusedVariables false
set_option linter.unusedSimpArgs false

/-- The text of the first k heights. -/
def hTo (f : Nat → Int) : Nat → List UInt8
  | 0 => []
  | k + 1 => hTo f k ++ (if k = 0 then [] else [44]) ++ Lib.decDigits (f k).toNat
def textOf (f : Nat → Int) (n : Nat) : List UInt8 := if floorsB f n = true then hTo f n else []
theorem textOf_yes {f : Nat → Int} {n : Nat} (h : floorsB f n = true) : textOf f n = hTo f n := if_pos h
theorem textOf_no {f : Nat → Int} {n : Nat} (h : floorsB f n = false) : textOf f n = [] := by simp [textOf, h]
theorem decDigits_100 {i : Nat} (h : i < 100) : (Lib.decDigits i).length ≤ 2 := by
  by_cases h1 : i < 10
  · rw [Lib.decDigits_one h1]; simp
  · rw [decDigits_more h1, Lib.decDigits_one (by omega)]; simp
theorem floorsB_in {f : Nat → Int} {n k : Nat} (h : floorsB f n = true) (hk : k < n) : 0 ≤ f k ∧ f k ≤ 60 := by
  rw [floorsB_spec] at h
  simp only [Bool.and_eq_true] at h
  have := allB_iff.1 (by first | exact h.1.1.1) k hk
  simp only [floorQ, Bool.and_eq_true] at this
  exact inB_iff.1 this.1
theorem hTo_len {f : Nat → Int} {n : Nat} : ∀ k, (∀ i, i < k → 0 ≤ f i ∧ f i ≤ 60) → (hTo f k).length ≤ 3 * k
  | 0, _ => Nat.le_refl _
  | k + 1, h => by
    have h1 := hTo_len (n := n) k (fun i hi => h i (by omega))
    have h2 := decDigits_100 (i := (f k).toNat) (by have := h k (by omega); omega)
    simp only [hTo, List.length_append]
    split <;> simp <;> omega

theorem add_texts (W : World) (a b : List UInt8) (h : a.length + b.length ≤ 9223372036854775807) :
    (Op.stringOp .add ⟨a.toArray⟩ ⟨b.toArray⟩).run Tryz.prog W = .ok (.string ⟨(a ++ b).toArray⟩) W := by
  rw [run_string_add_sum W _ _ (by simpa [ByteArray.size] using h), ByteArray.mk_append_mk]

set_option maxRecDepth 100000 in
set_option maxHeartbeats 800000 in
theorem impl_HeightsText {w : World} {B : Nat} {A : Option Addr} {n c : Nat} {f : Nat → Int} (hn : n ≤ 9223372036854775806) (hs : Ints w B A n f) :
    Calls Tryz.prog 101 #[.slice A n c] w fun e w' => e = .returned (.string ⟨(textOf f n).toArray⟩) ∧ Drew w w' := by
  cases hv : floorsB f n
  · have HN := Lib.hid (textOf_no hv)
    go_enter Tryz.func101, Tryz.ntmps101
    go_wp2_with (go_at_call 92; refine (impl_FloorsValid hn hs).mono ?_; rintro e w' ⟨rfl, m, rfl⟩)
    go_ret
    exact ⟨by rw [HN.out]; rfl, _, rfl⟩
  · have HN := Lib.hid (textOf_yes hv)
    have HV := Lib.hid hv
    have HI := Lib.hid (fun k (hk : k < n) => floorsB_in hv hk)
    go_enter Tryz.func101, Tryz.ntmps101
    go_wp2_with (go_at_call 92; refine (impl_FloorsValid hn hs).mono ?_; rintro e w' ⟨rfl, m, rfl⟩)
    go_loopw [3, 11] (fun s3 s11 wr => ∃ k : Nat, k ≤ n ∧ s3 = .string ⟨(hTo f k).toArray⟩ ∧ s11 = .int .i64 k ∧ Drew w wr) (fun _ s11 _ => n - (intOf s11).toNat)
    case atStart => exact ⟨0, Nat.zero_le _, rfl, rfl, _, rfl⟩
    case round =>
      obtain ⟨k, hk, rfl, rfl, m, rfl⟩ := hrel
      have hlen := hTo_len (n := n) k (fun i hi => HI.out i (by omega))
      have hn8 := (floorsB_iff.1 HV.out).2.1
      by_cases hlt : k < n
      · obtain ⟨b, off, rfl, _, hc⟩ := hs (by omega)
        have c0 := hc k hlt
        obtain ⟨h0, h1⟩ := HI.out k hlt
        clear hc hs hv
        have hst : hTo f (k + 1) = hTo f k ++ (if k = 0 then [] else [44]) ++ Lib.decDigits (f k).toNat := rfl
        have hd := decDigits_100 (i := (f k).toNat) (by omega)
        obtain ⟨x, hx⟩ : ∃ x : Nat, f k = x := ⟨(f k).toNat, by omega⟩
        rw [hx] at c0 hst hd h0 h1
        rw [Int.toNat_natCast] at hst hd
        have HIT := Lib.hid (fun W => Tryz.strconv_Itoa_small (i := x) (by omega) W)
        have hd2 := Lib.decDigits x
        by_cases hk0 : k = 0
        · rw [if_pos hk0, List.append_nil] at hst
          have hA := fun W => add_texts W (hTo f k) (Lib.decDigits x) (by omega)
          rw [← hst] at hA
          have hk1 : ¬ (0 : Int) < (k : Int) := by omega
          have HE : Hid (ByteArray.mk (hTo f (k + 1)).toArray = ByteArray.mk (hTo f (k + 1)).toArray) := rfl
          clear hst hk0 hd2 hd hlen
          generalize hb2 : ByteArray.mk (hTo f (k + 1)).toArray = b2 at *
          generalize ByteArray.mk (hTo f k).toArray = b0 at *
          generalize ByteArray.mk (Lib.decDigits x).toArray = bd at *
          have HB2 := Lib.hid hb2
          clear hb2 HE
          go_wp2_with (go_at_call 45; refine (HIT.out _).mono ?_; rintro e w' ⟨rfl, rfl⟩)
          go_roundw
          case rel => exact ⟨k + 1, by omega, by rw [HB2.out], by go_num, by first | exact ⟨_, rfl⟩ | exact ⟨_, World.drewN_drewN _ _ _⟩⟩
          case measure => simp [intOf]; omega
        · rw [if_neg hk0] at hst
          have hA := fun W => add_texts W (hTo f k) [44] (by simp; omega)
          have hA2 := fun W => add_texts W (hTo f k ++ [44]) (Lib.decDigits x) (by simp; omega)
          rw [← hst] at hA2
          have hk1 : (0 : Int) < (k : Int) := by omega
          clear hst hk0 hd2 hd hlen
          generalize hb2 : ByteArray.mk (hTo f (k + 1)).toArray = b2 at *
          generalize ByteArray.mk (hTo f k ++ [44]).toArray = b1 at *
          generalize ByteArray.mk (hTo f k).toArray = b0 at *
          generalize ByteArray.mk (Lib.decDigits x).toArray = bd at *
          have HB2 := Lib.hid hb2
          clear hb2
          go_wp2_with (go_at_call 45; refine (HIT.out _).mono ?_; rintro e w' ⟨rfl, rfl⟩)
          go_roundw
          case rel => exact ⟨k + 1, by omega, by rw [HB2.out], by go_num, by first | exact ⟨_, rfl⟩ | exact ⟨_, World.drewN_drewN _ _ _⟩⟩
          case measure => simp [intOf]; omega
      · obtain rfl : k = n := by omega
        go_wp2
        go_ret
        exact ⟨by rw [HN.out]; rfl, _, rfl⟩

set_option maxRecDepth 100000 in
set_option maxHeartbeats 800000 in
theorem spec_HeightsText {w : World} {B : Nat} {A : Option Addr} {n c : Nat} {f : Nat → Int} (hn : n ≤ 9223372036854775806) (hB : B ≤ w.heap.size) (hs : Ints w B A n f) :
    Calls Tryz.prog 111 #[.slice A n c] w fun e w' => e = .returned (.string ⟨(textOf f n).toArray⟩) ∧ Below w.heap.size w w' := by
  go_enter Tryz.func111, Tryz.ntmps111
  go_wp2
  go_loopw [3, 4] (fun s3 s4 wr => ∃ k : Nat, k ≤ n ∧ s3 = .string ⟨(if floorsB f n = true then hTo f k else []).toArray⟩ ∧ s4 = .int .i64 k ∧ (floorsB f n = false → k = 0) ∧ Below w.heap.size w wr) (fun _ s4 _ => n - (intOf s4).toNat)
  case atStart => exact ⟨0, Nat.zero_le _, by split <;> rfl, rfl, fun _ => rfl, Below.refl _ _⟩
  case round =>
    obtain ⟨k, hk, rfl, rfl, hk0, HB⟩ := hrel
    have hs' := hs.below (HB.mono hB)
    have HBH := Lib.hid HB
    cases hv : floorsB f n
    · have HN := Lib.hid (textOf_no hv)
      simp only [hv, Bool.false_eq_true, if_false]
      obtain rfl := hk0 hv
      by_cases hn0 : 0 < n
      · go_wp2_with (go_at_call 89; refine (spec_FloorsValid hn hs').mono ?_; rintro e w2 ⟨rfl, m2, rfl⟩; rw [hv])
        go_ret
        exact ⟨by rw [HN.out]; rfl, below_drewN HBH.out _⟩
      · obtain rfl : n = 0 := by omega
        go_wp2
        go_ret
        exact ⟨by rw [HN.out]; rfl, HBH.out⟩
    · have HN := Lib.hid (textOf_yes hv)
      simp only [hv, if_true]
      have HI := fun k (hk : k < n) => floorsB_in hv hk
      have hlen := hTo_len (n := n) k (fun i hi => HI i (by omega))
      have hn8 := (floorsB_iff.1 hv).2.1
      have HV := Lib.hid hv
      clear hk0
      by_cases hlt : k < n
      · obtain ⟨b, off, rfl, _, hc⟩ := id hs' (by omega)
        have c0 := hc k hlt
        obtain ⟨h0, h1⟩ := HI k hlt
        clear hc HI
        have hst : hTo f (k + 1) = hTo f k ++ (if k = 0 then [] else [44]) ++ Lib.decDigits (f k).toNat := rfl
        have hd := decDigits_100 (i := (f k).toNat) (by omega)
        obtain ⟨x, hx⟩ : ∃ x : Nat, f k = x := ⟨(f k).toNat, by omega⟩
        rw [hx] at c0 hst hd h0 h1
        rw [Int.toNat_natCast] at hst hd
        have HIT := Lib.hid (l1Number_any (i := x) (by omega))
        by_cases hk0 : k = 0
        · rw [if_pos hk0, List.append_nil] at hst
          have hA := fun W => add_texts W (hTo f k) (Lib.decDigits x) (by omega)
          rw [← hst] at hA
          have hk1 : ¬ (0 : Int) < (k : Int) := by omega
          clear hst hk0 hd hlen
          generalize hb2 : ByteArray.mk (hTo f (k + 1)).toArray = b2 at *
          generalize ByteArray.mk (hTo f k).toArray = b0 at *
          generalize ByteArray.mk (Lib.decDigits x).toArray = bd at *
          have HB2 := Lib.hid hb2
          clear hb2
          go_wp2_with (first
            | (go_at_call 89; refine (spec_FloorsValid hn hs').mono ?_; rintro e w2 ⟨rfl, m2, rfl⟩; rw [HV.out])
            | (go_at_call 58; refine (HIT.out _).mono ?_; rintro e w3 ⟨rfl, hb3⟩; have HB3 := Lib.hid hb3; clear hb3))
          go_roundw
          case rel => exact ⟨k + 1, by omega, by rw [HB2.out], by go_num, (fun h => nomatch h), HBH.out.trans ((below_drewN (Below.refl _ _) _).trans (HB3.out.mono HBH.out.size))⟩
          case measure => simp [intOf]; omega
        · rw [if_neg hk0] at hst
          have hA := fun W => add_texts W (hTo f k) [44] (by simp; omega)
          have hA2 := fun W => add_texts W (hTo f k ++ [44]) (Lib.decDigits x) (by simp; omega)
          rw [← hst] at hA2
          have hk1 : (0 : Int) < (k : Int) := by omega
          clear hst hk0 hd hlen
          generalize hb2 : ByteArray.mk (hTo f (k + 1)).toArray = b2 at *
          generalize ByteArray.mk (hTo f k ++ [44]).toArray = b1 at *
          generalize ByteArray.mk (hTo f k).toArray = b0 at *
          generalize ByteArray.mk (Lib.decDigits x).toArray = bd at *
          have HB2 := Lib.hid hb2
          clear hb2
          go_wp2_with (first
            | (go_at_call 89; refine (spec_FloorsValid hn hs').mono ?_; rintro e w2 ⟨rfl, m2, rfl⟩; rw [HV.out])
            | (go_at_call 58; refine (HIT.out _).mono ?_; rintro e w3 ⟨rfl, hb3⟩; have HB3 := Lib.hid hb3; clear hb3))
          go_roundw
          case rel => exact ⟨k + 1, by omega, by rw [HB2.out], by go_num, (fun h => nomatch h), HBH.out.trans ((below_drewN (Below.refl _ _) _).trans (HB3.out.mono HBH.out.size))⟩
          case measure => simp [intOf]; omega
      · obtain rfl : k = n := by omega
        go_wp2
        go_ret
        exact ⟨by rw [HN.out]; rfl, HBH.out⟩
end Go.Proofs.YthkpikkjgggimaaGreatDoor

namespace Go.Proofs.YthkpikkjgggimaaGreatDoor
open Go.RowKit
set_option linter.unusedVariables false
set_option linter.unusedSimpArgs false

/-- The byte at a place of a text. -/
def byteAt (s : ByteArray) (k : Nat) : Nat := if h : k < s.size then s[k].toNat else 0
theorem byteAt_of {s : ByteArray} {k : Nat} (h : k < s.size) : s[k].toNat = byteAt s k := by simp [byteAt, h]
theorem byteAt_lt (s : ByteArray) (k : Nat) : byteAt s k < 256 := by
  unfold byteAt
  split
  · exact UInt8.toNat_lt _
  · omega
def digP (s : ByteArray) (k : Nat) : Bool := decide (48 ≤ byteAt s k) && decide (byteAt s k ≤ 57)
theorem digP_iff {s : ByteArray} {k : Nat} : digP s k = true ↔ 48 ≤ byteAt s k ∧ byteAt s k ≤ 57 := by simp [digP]
/-- The number that the first k digits are. -/
def numTo (s : ByteArray) : Nat → Nat
  | 0 => 0
  | k + 1 => 10 * numTo s k + (byteAt s k - 48)
/-- A text that is a number of one to three digits without leading zeros. -/
def wordOk (s : ByteArray) : Bool := decide (1 ≤ s.size) && decide (s.size ≤ 3) && !(decide (1 < s.size) && decide (byteAt s 0 = 48)) && allB (digP s) s.size
theorem wordOk_no1 {s : ByteArray} (h : s.size < 1 ∨ 3 < s.size ∨ (1 < s.size ∧ byteAt s 0 = 48)) : wordOk s = false := by
  rw [Bool.eq_false_iff]; intro h'
  simp [wordOk] at h'
  obtain ⟨⟨⟨a, b⟩, c⟩, _⟩ := h'
  rcases h with h | h | ⟨h, h2⟩
  · omega
  · omega
  · rcases c with c | c
    · omega
    · exact c h2
theorem wordOk_no2 {s : ByteArray} {k : Nat} (hk : k < s.size) (h : byteAt s k < 48 ∨ 57 < byteAt s k) : wordOk s = false := by
  rw [Bool.eq_false_iff]; intro h'
  simp only [wordOk, Bool.and_eq_true] at h'
  have := digP_iff.1 (allB_iff.1 h'.2 k hk)
  omega
theorem wordOk_yes {s : ByteArray} (h1 : 1 ≤ s.size) (h3 : s.size ≤ 3) (h0 : ¬ (1 < s.size ∧ byteAt s 0 = 48)) (h : allB (digP s) s.size = true) : wordOk s = true := by
  simp only [wordOk, h, Bool.and_true, Bool.and_eq_true, decide_eq_true_eq, h1, h3, true_and]
  simp only [Bool.not_eq_true', Bool.and_eq_false_iff, decide_eq_false_iff_not]
  exact Classical.not_and_iff_not_or_not.1 h0
theorem numTo_lt {s : ByteArray} : ∀ k, allB (digP s) k = true → numTo s k < 10 ^ k
  | 0, _ => by simp [numTo]
  | k + 1, h => by
    have h1 := numTo_lt k (by rw [allB_iff] at h ⊢; exact fun i hi => h i (by omega))
    have h2 := digP_iff.1 (allB_iff.1 h k (by omega))
    rw [Nat.pow_succ, numTo]
    omega
theorem numTo_1000 {s : ByteArray} {k : Nat} (hk : k ≤ 3) (h : allB (digP s) k = true) : numTo s k < 1000 := by
  have h1 := numTo_lt k h
  have h2 : 10 ^ k ≤ 10 ^ 3 := Nat.pow_le_pow_right (by omega) hk
  omega
/-- What the text reads as. -/
def wordNo (s : ByteArray) : Int := if wordOk s = true then (numTo s s.size : Int) else -1
def wordN (s : ByteArray) : Int := if wordOk s = true then (numTo s s.size : Int) else 0
theorem wordNo_no {s : ByteArray} (h : wordOk s = false) : wordNo s = -1 := by simp [wordNo, h]
theorem wordNo_yes {s : ByteArray} (h : wordOk s = true) : wordNo s = (numTo s s.size : Int) := by simp [wordNo, h]
theorem wordN_no {s : ByteArray} (h : wordOk s = false) : wordN s = 0 := by simp [wordN, h]
theorem wordN_yes {s : ByteArray} (h : wordOk s = true) : wordN s = (numTo s s.size : Int) := by simp [wordN, h]

theorem word_cases (s : ByteArray) : s.size < 1 ∨ 3 < s.size ∨ (1 ≤ s.size ∧ s.size ≤ 3 ∧ 1 < s.size ∧ byteAt s 0 = 48) ∨ (1 ≤ s.size ∧ s.size ≤ 3 ∧ 1 < s.size ∧ byteAt s 0 ≠ 48) ∨ (1 ≤ s.size ∧ s.size ≤ 3 ∧ ¬ 1 < s.size) := by omega

set_option maxHeartbeats 800000 in
theorem impl_readNumber (s : ByteArray) (hs : s.size ≤ 9223372036854775806) (w : World) :
    Calls Tryz.prog 50 #[.string s] w fun e w' => e = .returned (.tuple #[.int .i64 (wordN s), .bool (wordOk s)]) ∧ w' = w := by
  rcases word_cases s with h1 | h2 | ⟨h1, h2, h3, h4⟩ | ⟨h1, h2, h3, h4⟩ | ⟨h1, h2, h3⟩
  · have HN := Lib.hid (wordOk_no1 (.inl h1))
    have j1 : (s.size : Int) < 1 := by omega
    go_enter Tryz.func50, Tryz.ntmps50
    go_wp2
    exact bodyPost_ret (v := .tuple #[.int .i64 0, .bool false]) (by simp [results, Tryz.results50, go_sem]) rfl ⟨by rw [wordN_no HN.out, HN.out], rfl⟩
  · have HN := Lib.hid (wordOk_no1 (.inr (.inl h2)))
    have j1 : ¬ (s.size : Int) < 1 := by omega
    have j2 : 3 < (s.size : Int) := by omega
    go_enter Tryz.func50, Tryz.ntmps50
    go_wp2
    exact bodyPost_ret (v := .tuple #[.int .i64 0, .bool false]) (by simp [results, Tryz.results50, go_sem]) rfl ⟨by rw [wordN_no HN.out, HN.out], rfl⟩
  · have HN := Lib.hid (wordOk_no1 (.inr (.inr ⟨h3, h4⟩)))
    have j1 : ¬ (s.size : Int) < 1 := by omega
    have j2 : ¬ 3 < (s.size : Int) := by omega
    have j3 : 1 < (s.size : Int) := by omega
    have j0 : 0 < s.size := by omega
    have j4 : s[0].toNat = 48 := (byteAt_of j0).trans h4
    clear h1 h2 h3 h4 hs
    go_enter Tryz.func50, Tryz.ntmps50
    go_wp2
    exact bodyPost_ret (v := .tuple #[.int .i64 0, .bool false]) (by simp [results, Tryz.results50, go_sem]) rfl ⟨by rw [wordN_no HN.out, HN.out], rfl⟩
  all_goals
    have H0 : Hid (¬ (1 < s.size ∧ byteAt s 0 = 48)) := by first | exact fun h => h4 h.2 | exact fun h => h3 h.1
    have j1 : ¬ (s.size : Int) < 1 := by omega
    have j2 : ¬ 3 < (s.size : Int) := by omega
    have j0 : 0 < s.size := by omega
    have H4 : Hid (1 < s.size → s[0].toNat ≠ 48) := by first | exact fun _ => by rw [byteAt_of j0]; exact h4 | exact fun h => absurd h h3
    have H12 := Lib.hid (And.intro h1 h2)
    first | (have j3 : 1 < (s.size : Int) := by omega) | (have j3 : ¬ 1 < (s.size : Int) := by omega)
    first | (have j4 := H4.out (by omega)) | skip
    clear h1 h2 hs
    try clear h4
    clear h3
    go_enter Tryz.func50, Tryz.ntmps50
    go_wp2
    go_loop [4, 5] (fun s4 s5 => ∃ k : Nat, k ≤ s.size ∧ s4 = .int .i64 (numTo s k) ∧ s5 = .int .i64 k ∧ Hid (allB (digP s) k = true)) (fun _ s5 => s.size - (intOf s5).toNat)
    case atStart => exact ⟨0, Nat.zero_le _, rfl, rfl, rfl⟩
    case round =>
      obtain ⟨k, hk, rfl, rfl, HK⟩ := hrel
      have hnum := numTo_1000 (k := k) (by have := H12.out.2; omega) HK.out
      by_cases hlt : k < s.size
      · have hb := byteAt_of hlt
        have hst : numTo s (k + 1) = 10 * numTo s k + (byteAt s k - 48) := rfl
        by_cases d1 : byteAt s k < 48
        · have HN := Lib.hid (wordOk_no2 hlt (.inl d1))
          have e1 : ((s[k].toNat : Nat) : Int) < 48 := by omega
          clear hst
          go_wp2
          exact bodyPost_ret (v := .tuple #[.int .i64 0, .bool false]) (by simp [results, Tryz.results50, go_sem]) rfl ⟨by rw [wordN_no HN.out, HN.out], rfl⟩
        · by_cases d2 : 57 < byteAt s k
          · have HN := Lib.hid (wordOk_no2 hlt (.inr d2))
            have e1 : ¬ ((s[k].toNat : Nat) : Int) < 48 := by omega
            have e2 : 57 < ((s[k].toNat : Nat) : Int) := by omega
            clear hst
            go_wp2
            exact bodyPost_ret (v := .tuple #[.int .i64 0, .bool false]) (by simp [results, Tryz.results50, go_sem]) rfl ⟨by rw [wordN_no HN.out, HN.out], rfl⟩
          · have HD : Hid (digP s k = true) := digP_iff.2 ⟨by omega, by omega⟩
            have e1 : ¬ ((s[k].toNat : Nat) : Int) < 48 := by omega
            have e2 : ¬ 57 < ((s[k].toNat : Nat) : Int) := by omega
            have e3 : IntKind.u8.wrap ((s[k].toNat : Int) - 48) = ((byteAt s k - 48 : Nat) : Int) := (IntWalk.u8_in _ (by omega)).trans (by omega)
            have HST := Lib.hid hst
            clear hst
            go_wp2
            exact ⟨⟨k + 1, by omega, by rw [HST.out]; congr 1; omega, by go_num, allB_succ HK.out HD.out⟩, by simp [intOf]; omega⟩
      · obtain rfl : k = s.size := by omega
        have HN := Lib.hid (wordOk_yes H12.out.1 H12.out.2 H0.out HK.out)
        go_wp2
        exact bodyPost_ret (v := .tuple #[.int .i64 (numTo s s.size), .bool true]) (by simp [results, Tryz.results50, go_sem]) rfl ⟨by rw [wordN_yes HN.out, HN.out], rfl⟩
set_option maxHeartbeats 800000 in
theorem spec_l1Read (s : ByteArray) (hs : s.size ≤ 9223372036854775806) (w : World) :
    Calls Tryz.prog 60 #[.string s] w fun e w' => e = .returned (.int .i64 (wordNo s)) ∧ w' = w := by
  rcases word_cases s with h1 | h2 | ⟨h1, h2, h3, h4⟩ | ⟨h1, h2, h3, h4⟩ | ⟨h1, h2, h3⟩
  · have HN := Lib.hid (wordOk_no1 (.inl h1))
    have j1 : inB (s.size : Int) 1 3 = false := inB_no.2 (.inl (by omega))
    go_enter Tryz.func60, Tryz.ntmps60
    go_wp2_with (go_at_call 40; refine (l1In_any _ _ _ _).mono ?_; rintro e w' ⟨rfl, rfl⟩)
    go_ret
    exact ⟨by rw [wordNo_no HN.out]; rfl, rfl⟩
  · have HN := Lib.hid (wordOk_no1 (.inr (.inl h2)))
    have j1 : inB (s.size : Int) 1 3 = false := inB_no.2 (.inr (by omega))
    go_enter Tryz.func60, Tryz.ntmps60
    go_wp2_with (go_at_call 40; refine (l1In_any _ _ _ _).mono ?_; rintro e w' ⟨rfl, rfl⟩)
    go_ret
    exact ⟨by rw [wordNo_no HN.out]; rfl, rfl⟩
  · have HN := Lib.hid (wordOk_no1 (.inr (.inr ⟨h3, h4⟩)))
    have j1 : inB (s.size : Int) 1 3 = true := inB_iff.2 ⟨by omega, by omega⟩
    have j3 : 1 < (s.size : Int) := by omega
    have j0 : 0 < s.size := by omega
    have j4 : s[0].toNat = 48 := (byteAt_of j0).trans h4
    clear h1 h2 h3 h4 hs
    go_enter Tryz.func60, Tryz.ntmps60
    go_wp2_with (go_at_call 40; refine (l1In_any _ _ _ _).mono ?_; rintro e w' ⟨rfl, rfl⟩)
    go_ret
    exact ⟨by rw [wordNo_no HN.out]; rfl, rfl⟩
  all_goals
    have H0 : Hid (¬ (1 < s.size ∧ byteAt s 0 = 48)) := by first | exact fun h => h4 h.2 | exact fun h => h3 h.1
    have j1 : inB (s.size : Int) 1 3 = true := inB_iff.2 ⟨by omega, by omega⟩
    have j0 : 0 < s.size := by omega
    have H4 : Hid (1 < s.size → s[0].toNat ≠ 48) := by first | exact fun _ => by rw [byteAt_of j0]; exact h4 | exact fun h => absurd h h3
    have H12 := Lib.hid (And.intro h1 h2)
    first | (have j3 : 1 < (s.size : Int) := by omega) | (have j3 : ¬ 1 < (s.size : Int) := by omega)
    first | (have j4 := H4.out (by omega)) | skip
    clear h1 h2 hs
    try clear h4
    clear h3
    go_enter Tryz.func60, Tryz.ntmps60
    go_wp2_with (go_at_call 40; refine (l1In_any _ _ _ _).mono ?_; rintro e w' ⟨rfl, rfl⟩)
    go_loop [3, 4] (fun s4 s5 => ∃ k : Nat, k ≤ s.size ∧ s4 = .int .i64 (numTo s k) ∧ s5 = .int .i64 k ∧ Hid (allB (digP s) k = true)) (fun _ s5 => s.size - (intOf s5).toNat)
    case atStart => exact ⟨0, Nat.zero_le _, rfl, rfl, rfl⟩
    case round =>
      obtain ⟨k, hk, rfl, rfl, HK⟩ := hrel
      have j2 : (s.size : Int) ≤ 3 := by have := H12.out.2; omega
      have hnum := numTo_1000 (k := k) (by have := H12.out.2; omega) HK.out
      by_cases hlt : k < s.size
      · have hb := byteAt_of hlt
        have hst : numTo s (k + 1) = 10 * numTo s k + (byteAt s k - 48) := rfl
        by_cases d1 : byteAt s k < 48
        · have HN := Lib.hid (wordOk_no2 hlt (.inl d1))
          have e1 : ((s[k].toNat : Nat) : Int) < 48 := by omega
          clear hst
          go_wp2
          go_ret
          exact ⟨by rw [wordNo_no HN.out]; rfl, rfl⟩
        · by_cases d2 : 57 < byteAt s k
          · have HN := Lib.hid (wordOk_no2 hlt (.inr d2))
            have e1 : ¬ ((s[k].toNat : Nat) : Int) < 48 := by omega
            have e2 : 57 < ((s[k].toNat : Nat) : Int) := by omega
            clear hst
            go_wp2
            go_ret
            exact ⟨by rw [wordNo_no HN.out]; rfl, rfl⟩
          · have HD : Hid (digP s k = true) := digP_iff.2 ⟨by omega, by omega⟩
            have e1 : ¬ ((s[k].toNat : Nat) : Int) < 48 := by omega
            have e2 : ¬ 57 < ((s[k].toNat : Nat) : Int) := by omega
            have e3 : IntKind.u8.wrap ((s[k].toNat : Int) - 48) = ((byteAt s k - 48 : Nat) : Int) := (IntWalk.u8_in _ (by omega)).trans (by omega)
            have HST := Lib.hid hst
            clear hst
            go_wp2
            first
              | exact ⟨⟨k + 1, by omega, by rw [HST.out]; congr 1; omega, by go_num, allB_succ HK.out HD.out⟩, by simp [intOf]; omega⟩
              | (refine ⟨⟨_, _, _, ⟨k + 1, by omega, ?_, ?_, allB_succ HK.out HD.out⟩, rfl, rfl, rfl⟩, by simp [intOf]; omega⟩
                 · rw [HST.out]; congr 1; omega
                 · go_num)
      · obtain rfl : k = s.size := by omega
        have HN := Lib.hid (wordOk_yes H12.out.1 H12.out.2 H0.out HK.out)
        go_wp2
        go_ret
        exact ⟨by rw [wordNo_yes HN.out]; rfl, rfl⟩
end Go.Proofs.YthkpikkjgggimaaGreatDoor

namespace Go.Proofs.YthkpikkjgggimaaGreatDoor
open Go.RowKit
set_option linter.unusedVariables false
set_option linter.unusedSimpArgs false

theorem Tryz.infoU8 : (Tryz.prog.info? 5).map (fun i => (i.zero, i.size, i.bytes)) = some (some (.int .u8 0), 1, 1) := by kernel_rfl

/-- The bytes f 0 .. f (n - 1) as cells. -/
def uvals (f : Nat → Nat) (n : Nat) : List Value := (List.range n).map fun i => .int .u8 (f i)
theorem uvals_length (f : Nat → Nat) (n : Nat) : (uvals f n).length = n := by simp [uvals]
theorem uvals_get {f : Nat → Nat} {n i : Nat} (h : i < n) : (uvals f n)[i]? = some (.int .u8 (f i)) := by simp [uvals, h]
theorem uvals_congr {f g : Nat → Nat} {n : Nat} (h : ∀ i, i < n → f i = g i) : uvals f n = uvals g n :=
  List.map_congr_left fun i hi => by rw [h i (List.mem_range.1 hi)]
def updU (h : Nat → Nat) (k v : Nat) (i : Nat) : Nat := if i = k then v else h i
theorem uvals_set (h : Nat → Nat) (n k v : Nat) : (uvals h n).set k (.int .u8 v) = uvals (updU h k v) n := by
  apply List.ext_getElem?
  intro i
  rw [List.getElem?_set]
  by_cases hi : i < n
  · rw [uvals_get hi, uvals_get hi]
    by_cases hk : k = i
    · subst hk; simp [uvals_length, hi, updU]
    · simp [hk, updU, Ne.symm hk]
  · rw [List.getElem?_eq_none (by rw [uvals_length]; omega), List.getElem?_eq_none (by rw [uvals_length]; omega)]
    by_cases hk : k = i
    · simp [hk, uvals_length, hi]
    · simp [hk]
theorem uvals_made (n : Nat) : (madeCells (Value.int .u8 0).cells (n * 1)).toList = uvals (fun _ => 0) n := by
  rw [Nat.mul_one]
  show (madeCells #[Value.int .u8 0] n).toList = _
  rw [toList_madeCells_one]
  apply List.ext_getElem?
  intro i
  by_cases hi : i < n
  · rw [uvals_get hi]; simp [hi]
  · rw [List.getElem?_eq_none (by simp; omega), List.getElem?_eq_none (by rw [uvals_length]; omega)]
/-- The slice (A, n, c) is a row of bytes of the call's own. -/
def RowU (w : World) (base : Nat) (A : Option Addr) (n c : Nat) (f : Nat → Nat) : Prop := w.ownsRow base 5 1 (.slice A n c) n (uvals f n)
section
variable {w w' : World} {base : Nat} {A : Option Addr} {n c : Nat} {f g : Nat → Nat}
theorem RowU.congr (h : RowU w base A n c f) (e : ∀ i, i < n → f i = g i) : RowU w base A n c g := by
  unfold RowU at h ⊢
  rw [← uvals_congr e]
  exact h
theorem RowU.set {b k : Nat} (h : RowU w base (some ⟨b, 0, none⟩) n c f) (v : Nat) :
    RowU (w.setCell ⟨b, k, none⟩ (.int .u8 v)) base (some ⟨b, 0, none⟩) n c (updU f k v) := by
  have := (World.ownsRow.stored h k (.int .u8 v)).1
  rw [uvals_set] at this
  exact this
theorem RowU.frozen {b : Nat} (h : RowU w base (some ⟨b, 0, none⟩) n c f) (k : Nat) : w.frozen? ⟨b, k, none⟩ = false := World.ownsRow.frozenAt h k
theorem RowU.cell {b k : Nat} (h : RowU w base (some ⟨b, 0, none⟩) n c f) (hk : k < n) : w.cell? ⟨b, k, none⟩ = some (.int .u8 (f k)) := by
  rw [World.ownsRow.cellAt h k (by omega), uvals_get hk]
end

/-- The byte of a truth. -/
def bitN (p : Bool) : Nat := if p = true then 49 else 48
/-- The text of truths. -/
def bitsOf (p : Nat → Bool) : Nat → List UInt8
  | 0 => []
  | k + 1 => bitsOf p k ++ [UInt8.ofNat (bitN (p k))]
theorem bitsOf_length (p : Nat → Bool) : ∀ n, (bitsOf p n).length = n
  | 0 => rfl
  | n + 1 => by rw [bitsOf, List.length_append, bitsOf_length p n]; rfl
theorem push_mk (l : List UInt8) (b : UInt8) : (ByteArray.mk l.toArray).push b = ByteArray.mk (l ++ [b]).toArray := by
  simp [ByteArray.push]
theorem fold_push : ∀ (l : List Int) (a : List UInt8), l.foldl (fun r n => r.push (UInt8.ofNat n.toNat)) (ByteArray.mk a.toArray) = ByteArray.mk (a ++ l.map fun n => UInt8.ofNat n.toNat).toArray
  | [], a => by simp
  | x :: l, a => by
    rw [List.foldl_cons, push_mk, fold_push l]
    simp
theorem bitsOf_map (p : Nat → Bool) : ∀ n, bitsOf p n = (List.range n).map fun i => UInt8.ofNat (bitN (p i))
  | 0 => rfl
  | n + 1 => by rw [bitsOf, bitsOf_map p n, List.range_succ, List.map_append]; rfl
theorem bytes_text {w : World} {base b n c : Nat} {p : Nat → Bool} (h : RowU w base (some ⟨b, 0, none⟩) n c (fun i => bitN (p i))) :
    (convert 22 9 (.slice (some ⟨b, 0, none⟩) n c)).run Tryz.prog w = .ok (.string ⟨(bitsOf p n).toArray⟩) w := by
  rw [run_convert_bytes_string w _ _ 5 _ _ _ Tryz.underlying22 Tryz.underlying5 Tryz.underlying9]
  have hl : (loadCells ⟨b, 0, none⟩ n).run Tryz.prog w = .ok (((List.range n).map fun i => (bitN (p i) : Int)).map (Value.int .u8)).toArray w := by
    have := run_loadCells_list (P := Tryz.prog) (w := w) ⟨b, 0, none⟩ (uvals (fun i => bitN (p i)) n) (fun j v hj => by
      have hjn : j < n := by
        rcases Nat.lt_or_ge j n with h' | h'
        · exact h'
        · rw [List.getElem?_eq_none (by rw [uvals_length]; omega)] at hj; cases hj
      rw [uvals_get hjn] at hj
      rw [← hj, Addr.add_lit, Nat.zero_add]
      exact h.cell hjn)
    rw [uvals_length] at this
    rw [this]
    congr 2
    simp [uvals]
  rw [run_bytesToString w ⟨b, 0, none⟩ n c _ hl]
  rw [show ByteArray.empty = ByteArray.mk ([] : List UInt8).toArray from rfl, fold_push, bitsOf_map]
  congr 4
  simp

theorem l8Bits_any {w : World} {B : Nat} {A : Option Addr} {n c : Nat} {p : Nat → Bool} (hn : n ≤ 1000) (hs : Bools w B A n p) :
    Calls Tryz.prog 140 #[.slice A n c] w fun e w' => e = .returned (.string ⟨(bitsOf p n).toArray⟩) ∧ w = w' := by
  have HS := Lib.hid hs
  clear hs
  go_enter Tryz.func140, Tryz.ntmps140
  go_wp2
  go_loop [3, 4] (fun s3 s4 => ∃ k : Nat, k ≤ n ∧ s3 = .string ⟨(bitsOf p k).toArray⟩ ∧ s4 = .int .i64 k) (fun _ s4 => n - (intOf s4).toNat)
  case atStart => exact ⟨0, Nat.zero_le _, rfl, rfl⟩
  case round =>
    obtain ⟨k, hk, rfl, rfl⟩ := hrel
    by_cases hlt : k < n
    · obtain ⟨b, off, rfl, hbB, hc⟩ := HS.out (by omega)
      have c0 := hc k hlt
      have hl := bitsOf_length p k
      have hb0 : (ByteArray.mk (bitsOf p k).toArray).size ≤ 1000 := by
        show (bitsOf p k).toArray.size ≤ 1000
        simp; omega
      have HN : Hid (∀ x, UInt8.ofNat (bitN (p k)) = x → ByteArray.mk (bitsOf p (k + 1)).toArray = ByteArray.mk (bitsOf p k).toArray ++ ByteArray.mk #[x]) := Lib.hid (by
        rintro x rfl
        rw [bitsOf, ← ByteArray.mk_append_mk])
      clear hc hl HS
      generalize ByteArray.mk (bitsOf p k).toArray = b0 at *
      cases hp : p k
      all_goals
        first | have HX := Lib.hid (HN.out 48 (by rw [hp]; rfl)) | have HX := Lib.hid (HN.out 49 (by rw [hp]; rfl))
        rw [hp] at c0
        clear HN hp
        go_wp2
        go_round
        case rel => exact ⟨k + 1, by omega, by rw [HX.out], by go_num⟩
        case measure => simp [intOf]; omega
    · obtain rfl : k = n := by omega
      go_wp2
      go_ret
      exact ⟨rfl, rfl⟩

theorem truthText_any {w : World} {B : Nat} {A : Option Addr} {n c : Nat} {p : Nat → Bool} (hn : n ≤ 1000) (hB : B ≤ w.heap.size) (hs : Bools w B A n p) :
    Calls Tryz.prog 133 #[.slice A n c] w fun e w' => e = .returned (.string ⟨(bitsOf p n).toArray⟩) ∧ Below w.heap.size w w' := by
  obtain ⟨i0, hi, hz0, hz1, hz2⟩ := info_parts Tryz.infoU8
  go_enter Tryz.func133, Tryz.ntmps133
  go_wp2_with (at_make; refine wpList_make_full _ rfl _ _ 22 rfl w.heap.size 5 i0 (.int .u8 0) 1 Tryz.underlying22 hi hz0 hz1 _ _ _ _ n rfl rfl rfl rfl (by rw [hz2]; omega) (by unfold maxLen; omega) (Nat.le_refl _) ?_; intro w1 hown hgrow)
  have hrow0 : RowU w1 w.heap.size (some ⟨w.heap.size, 0, none⟩) n n (fun _ => 0) := by
    unfold RowU
    rw [← uvals_made]
    exact hown
  have hb0 := (Below.refl w.heap.size w).grown hgrow (Nat.le_refl _) (by intro k hk; cases hk)
  clear hown hgrow hi hz0 hz1 hz2
  have HS := Lib.hid hs
  clear hs
  go_wp2
  go_loopw [11] (fun s11 wr => ∃ k : Nat, k ≤ n ∧ s11 = .int .i64 k ∧ RowU wr w.heap.size (some ⟨w.heap.size, 0, none⟩) n n (fun i => if i < k then bitN (p i) else 0) ∧ Below w.heap.size w wr) (fun s11 _ => n - (intOf s11).toNat)
  case atStart => exact ⟨0, Nat.zero_le _, rfl, hrow0.congr fun i hi => by simp, hb0⟩
  case round =>
    obtain ⟨k, hk, rfl, hr, hb⟩ := hrel
    clear hrow0 hb0
    by_cases hlt : k < n
    · obtain ⟨b, off, rfl, hbB, hc⟩ := HS.out (by omega)
      have c0 := (hb.cell (p := ⟨b, off + k, none⟩) (by simp; omega)).trans (hc k hlt)
      have c2 := hr.frozen k
      have c1 := hr.cell hlt
      have HK : Hid (∀ f : Nat → Nat, (∀ i, i < n → f i = if i < k + 1 then bitN (p i) else 0) → ∀ W, RowU W w.heap.size (some ⟨w.heap.size, 0, none⟩) n n f → RowU W w.heap.size (some ⟨w.heap.size, 0, none⟩) n n (fun i => if i < k + 1 then bitN (p i) else 0)) := Lib.hid (fun f hf W h => h.congr hf)
      have HR := Lib.hid hr
      have HB := Lib.hid hb
      clear hr hb HS hc
      cases hp : p k
      all_goals
        rw [hp] at c0
        have HP := Lib.hid hp
        clear hp
        go_wp2
        go_roundw
        case rel =>
          refine ⟨k + 1, by omega, by go_num, ?_, ?_⟩
          · first
              | refine HK.out _ ?_ _ (HR.out.set 48)
              | refine HK.out _ ?_ _ ((HR.out.set 48).set 49)
            intro i hi
            unfold updU
            by_cases e : i = k
            · subst e; simp [HP.out, bitN]
            · have : (i < k + 1) = (i < k) := by simp; omega
              simp [e, this]
          · first
              | exact HB.out.setCell (p := ⟨w.heap.size, k, none⟩) (Nat.le_refl _) _
              | exact (HB.out.setCell (p := ⟨w.heap.size, k, none⟩) (Nat.le_refl _) _).setCell (p := ⟨w.heap.size, k, none⟩) (Nat.le_refl _) _
        case measure => simp [intOf]; omega
    · obtain rfl : k = n := by omega
      have hcv := bytes_text (hr.congr (g := fun i => bitN (p i)) (fun i hi => by simp [hi]))
      have HB := Lib.hid hb
      clear hr hb
      go_wp2
      go_ret
      exact ⟨rfl, HB.out⟩
end Go.Proofs.YthkpikkjgggimaaGreatDoor

namespace Go.Proofs.YthkpikkjgggimaaGreatDoor
open Go.RowKit
set_option linter.unusedVariables false
set_option linter.unusedSimpArgs false

theorem impl_bits {w : World} {B : Nat} {A : Option Addr} {n c : Nat} {p : Nat → Bool} (hn : n ≤ 1000) (hB : B ≤ w.heap.size) (hs : Bools w B A n p) :
    Calls Tryz.prog 133 #[.slice A n c] w fun e w' => e = .returned (.string ⟨(bitsOf p n).toArray⟩) ∧ Below w.heap.size w w' := truthText_any hn hB hs
theorem spec_bits {w : World} {B : Nat} {A : Option Addr} {n c : Nat} {p : Nat → Bool} (hn : n ≤ 1000) (hB : B ≤ w.heap.size) (hs : Bools w B A n p) :
    Calls Tryz.prog 140 #[.slice A n c] w fun e w' => e = .returned (.string ⟨(bitsOf p n).toArray⟩) ∧ Below w.heap.size w w' :=
  (l8Bits_any hn hs).mono fun e w' h => ⟨h.1, by rw [← h.2]; exact Below.refl _ _⟩

/-- The text of calls. -/
def callsL (nu nd nc : Nat) (up dn car : Nat → Bool) : List UInt8 := bitsOf up nu ++ [47] ++ bitsOf dn nd ++ [47] ++ bitsOf car nc
def callsT (nu nd nc : Nat) (up dn car : Nat → Bool) : List UInt8 := if callsB nu nd nc up dn = true then callsL nu nd nc up dn car else []
theorem callsT_no {nu nd nc : Nat} {up dn car : Nat → Bool} (h : callsB nu nd nc up dn = false) : callsT nu nd nc up dn car = [] := by simp [callsT, h]
theorem callsT_yes {nu nd nc : Nat} {up dn car : Nat → Bool} (h : callsB nu nd nc up dn = true) : callsT nu nd nc up dn car = callsL nu nd nc up dn car := by simp [callsT, h]
/-- What the operations of the region leave. -/
def CtV (g : Nat) (U D C : Value) (tu td tc : List UInt8) : Nat → Value → Prop
  | 0, v => v = .pointer (some ⟨g, 0, none⟩)
  | 1, v => v = U
  | 2, v => v = .string ⟨tu.toArray⟩
  | 3, v => v = .string ⟨(tu ++ [47]).toArray⟩
  | 4, v => v = .pointer (some ⟨g, 1, none⟩)
  | 5, v => v = D
  | 6, v => v = .string ⟨td.toArray⟩
  | 7, v => v = .string ⟨(tu ++ [47] ++ td).toArray⟩
  | 8, v => v = .string ⟨(tu ++ [47] ++ td ++ [47]).toArray⟩
  | 9, v => v = .pointer (some ⟨g, 2, none⟩)
  | 10, v => v = C
  | 11, v => v = .string ⟨tc.toArray⟩
  | 12, v => v = .string ⟨(tu ++ [47] ++ td ++ [47] ++ tc).toArray⟩
  | 13, v => v = .string ⟨(tu ++ [47] ++ td ++ [47] ++ tc).toArray⟩
  | _, _ => True
def CtR (g : Nat) (U D C : Value) (tu td tc : List UInt8) (i : Nat) (v : Value) (_ : World) : Prop := CtV g U D C tu td tc i v
theorem sizes_add {a b : List UInt8} {x y : ByteArray} (ha : x = ⟨a.toArray⟩) (hb : y = ⟨b.toArray⟩) : x ++ y = ⟨(a ++ b).toArray⟩ := by
  subst ha hb; exact ByteArray.mk_append_mk ..
theorem size_mk (l : List UInt8) : (ByteArray.mk l.toArray).size = l.length := by show l.toArray.size = _; simp

set_option maxRecDepth 100000 in
set_option maxHeartbeats 3200000 in
theorem impl_CallsText {w : World} {B : Nat} {U D C : Option Addr} {nu cu nd cd nc cc : Nat} {up dn car : Nat → Bool} (n1 : nu ≤ 9223372036854775806) (n2 : nd ≤ 9223372036854775806) (n3 : nc ≤ 9223372036854775806) (hB : B ≤ w.heap.size)
    (hu : Bools w B U nu up) (hd : Bools w B D nd dn) (hc : Bools w B C nc car) :
    Calls Tryz.prog 100 #[.agg #[.slice U nu cu, .slice D nd cd, .slice C nc cc]] w fun e w' => e = .returned (.string ⟨(callsT nu nd nc up dn car).toArray⟩) ∧ Below w.heap.size w w' := by
  have HX0 := Lib.hid (Bx.new w #[.slice U nu cu, .slice D nd cd, .slice C nc cc] 32)
  have HB0 := Lib.hid ((Below.refl w.heap.size w).alloc (Nat.le_refl _) (.cells #[.slice U nu cu, .slice D nd cd, .slice C nc cc] 32))
  have HU := Lib.hid (hu.below ((Below.refl B w).alloc hB (.cells #[.slice U nu cu, .slice D nd cd, .slice C nc cc] 32)))
  have HD := Lib.hid (hd.below ((Below.refl B w).alloc hB (.cells #[.slice U nu cu, .slice D nd cd, .slice C nc cc] 32)))
  have HC := Lib.hid (hc.below ((Below.refl B w).alloc hB (.cells #[.slice U nu cu, .slice D nd cd, .slice C nc cc] 32)))
  clear hu hd hc
  go_enter Tryz.func100, Tryz.ntmps100
  go_wp2_with fail
  refine (impl_CallsValid n1 n2 n3 (by simp; omega) HU.out HD.out).mono ?_
  rintro e w1 ⟨rfl, hb1⟩
  have HX1 := Lib.hid (HX0.out.below hb1 HX0.out.lt)
  have HB1 := Lib.hid (HB0.out.trans (hb1.mono HB0.out.size))
  have HU1 := Lib.hid (HU.out.below (hb1.mono (by simp; omega)))
  have HD1 := Lib.hid (HD.out.below (hb1.mono (by simp; omega)))
  have HC1 := Lib.hid (HC.out.below (hb1.mono (by simp; omega)))
  have hs1 : w.heap.size + 1 ≤ w1.heap.size := by have := hb1.size; simpa using this
  clear hb1 HX0 HB0 HU HD HC
  cases hv : callsB nu nd nc up dn
  · have HT := Lib.hid (callsT_no (car := car) hv)
    clear hv
    go_wp2
    go_ret
    exact ⟨by rw [HT.out]; rfl, HB1.out⟩
  · have HT := Lib.hid (callsT_yes (car := car) hv)
    obtain ⟨h1, h2, h3, h4, -, -⟩ := callsB_iff.1 hv
    have l1 := bitsOf_length up nu
    have l2 := bitsOf_length dn nd
    have l3 := bitsOf_length car nc
    have HL : Hid ((bitsOf up nu).length ≤ 8 ∧ (bitsOf dn nd).length ≤ 8 ∧ (bitsOf car nc).length ≤ 8) := Lib.hid ⟨by omega, by omega, by omega⟩
    have HN : Hid (nu ≤ 1000 ∧ nd ≤ 1000 ∧ nc ≤ 1000) := Lib.hid ⟨by omega, by omega, by omega⟩
    unfold callsL at HT
    clear hv h1 h2 h3 h4 n1 n2 n3 l1 l2 l3
    go_wp2_with fail
    rename_i hK
    refine wp_region_any (by kernel_rfl) ?_
    refine wpAny_typed 14 (fun i => (#[6, 7, 8, 9, 10, 11, 12, 13, 14, 15, 16, 17, 18, 2] : Array Nat).getD i 0) (fun _ => false) (CtR w.heap.size (.slice U nu cu) (.slice D nd cd) (.slice C nc cc) (bitsOf up nu) (bitsOf dn nd) (bitsOf car nc)) (fun _ W => Below w1.heap.size w1 W) rfl 19 rfl (by kernel_rfl) (below_drewN (Below.refl _ _) 1) ?_ ?_
    · intro a W Un hR hG
      obtain ⟨F, hf, ha⟩ := Un.form [false, false, true, false, false, false, true, true, true, true, true, true, true, true, true, true, true, true, true] rfl (by decide)
      have h13 := hR 13 (by omega)
      have e2 : a.tmps.getD 2 undef = F 2 := hf 13 (by omega)
      have h2 : F 2 = .string ⟨(bitsOf up nu ++ [47] ++ bitsOf dn nd ++ [47] ++ bitsOf car nc).toArray⟩ := e2.symm.trans h13
      rw [← HT.out] at h2
      simp only [letters, cond_true, cond_false, Nat.reduceAdd, h2] at ha
      obtain ⟨kk, hkk, hg2⟩ := hG
      have HB := Lib.hid (HB1.out.trans (hg2.mono (by omega)))
      clear hR hf Un h13 e2 h2 hg2
      subst ha
      refine hK _ _ ?_
      generalize htx : ByteArray.mk (callsT nu nd nc up dn car).toArray = tx
      have HTX := Lib.hid htx
      clear htx
      go_wp2
      go_ret
      exact ⟨by rw [HTX.out]; rfl, HB.out⟩
    · intro i' o ho a W k' Un hG hk' hd
      have hlt : i' < 14 := (Array.getElem?_eq_some_iff.1 ho).1
      have hu1 := Un.other 1 (by decide)
      have t1 : a.tmps[1]?.getD undef = .pointer (some ⟨w.heap.size, 0, none⟩) := by simpa using hu1
      have c0 := (HX1.out.below hG HX1.out.lt).cells
      have hl1 := HL.out
      rcases (by omega : i' = 0 ∨ i' = 1 ∨ i' = 2 ∨ i' = 3 ∨ i' = 4 ∨ i' = 5 ∨ i' = 6 ∨ i' = 7 ∨ i' = 8 ∨ i' = 9 ∨ i' = 10 ∨ i' = 11 ∨ i' = 12 ∨ i' = 13) with rfl | rfl | rfl | rfl | rfl | rfl | rfl | rfl | rfl | rfl | rfl | rfl | rfl | rfl
      all_goals (refine wpOp_of ho (by cases ho; rfl) ?_; cases ho)
      · unfold Oper.wp
        simp [go_sem, Act.eval, t1]
        exact ⟨hG, fun j v _ h => h, .inl ⟨rfl, _, rfl, rfl⟩⟩
      · have h0 := hd ⟨0, .data⟩ (by simp) rfl
        have u0 : a.tmps[6]?.getD undef = .pointer (some ⟨w.heap.size, 0, none⟩) := by simpa [CtR, CtV] using h0
        unfold Oper.wp
        simp [go_sem, Act.eval, u0, c0]
        exact ⟨hG, fun j v _ h => h, .inl ⟨rfl, _, rfl, rfl⟩⟩
      · have h0 := hd ⟨1, .data⟩ (by simp) rfl
        have u0 : a.tmps[7]?.getD undef = .slice U nu cu := by simpa [CtR, CtV] using h0
        unfold Oper.wp
        simp [go_sem, Act.eval, u0]
        refine (impl_bits HN.out.1 (by have := hG.size; omega) (HU1.out.below (hG.mono (by omega)))).mono ?_
        rintro e w' ⟨rfl, hb⟩
        exact ⟨hG.trans (hb.mono hG.size), fun j v _ h => h, .inl ⟨rfl, _, rfl, rfl⟩⟩
      · have h0 := hd ⟨2, .data⟩ (by simp) rfl
        have hz := size_mk (bitsOf up nu)
        have hy := sizes_add (a := bitsOf up nu) (b := [47]) rfl rfl
        generalize hx : ByteArray.mk (bitsOf up nu).toArray = x at *
        have u0 : a.tmps[8]?.getD undef = .string x := by
          have h : a.tmps.getD 8 undef = _ := h0
          simpa [← hx] using h
        have hl : ¬ 9223372036854775807 < x.size + 1 := by rw [hz]; simp; omega
        unfold Oper.wp
        simp [go_sem, Act.eval, u0, hl]
        exact ⟨hG, fun j v _ h => h, .inl ⟨rfl, _, rfl, by show Value.string _ = _; rw [hy]⟩⟩
      · unfold Oper.wp
        simp [go_sem, Act.eval, t1]
        exact ⟨hG, fun j v _ h => h, .inl ⟨rfl, _, rfl, rfl⟩⟩
      · have h0 := hd ⟨4, .data⟩ (by simp) rfl
        have u0 : a.tmps[10]?.getD undef = .pointer (some ⟨w.heap.size, 1, none⟩) := by simpa [CtR, CtV] using h0
        unfold Oper.wp
        simp [go_sem, Act.eval, u0, c0]
        exact ⟨hG, fun j v _ h => h, .inl ⟨rfl, _, rfl, rfl⟩⟩
      · have h0 := hd ⟨5, .data⟩ (by simp) rfl
        have u0 : a.tmps[11]?.getD undef = .slice D nd cd := by simpa [CtR, CtV] using h0
        unfold Oper.wp
        simp [go_sem, Act.eval, u0]
        refine (impl_bits HN.out.2.1 (by have := hG.size; omega) (HD1.out.below (hG.mono (by omega)))).mono ?_
        rintro e w' ⟨rfl, hb⟩
        exact ⟨hG.trans (hb.mono hG.size), fun j v _ h => h, .inl ⟨rfl, _, rfl, rfl⟩⟩
      · have h0 := hd ⟨3, .data⟩ (by simp) rfl
        have h1 := hd ⟨6, .data⟩ (by simp) rfl
        have hz := size_mk (bitsOf up nu ++ [47])
        have hz2 := size_mk (bitsOf dn nd)
        have hy := sizes_add (a := bitsOf up nu ++ [47]) (b := bitsOf dn nd) rfl rfl
        generalize hx : ByteArray.mk (bitsOf up nu ++ [47]).toArray = x at *
        generalize hx2 : ByteArray.mk (bitsOf dn nd).toArray = x2 at *
        have u0 : a.tmps[9]?.getD undef = .string x := by
          have h : a.tmps.getD 9 undef = _ := h0
          simpa [← hx] using h
        have u1 : a.tmps[12]?.getD undef = .string x2 := by
          have h : a.tmps.getD 12 undef = _ := h1
          simpa [← hx2] using h
        have hl : ¬ 9223372036854775807 < x.size + x2.size := by rw [hz, hz2]; simp; omega
        unfold Oper.wp
        simp [go_sem, Act.eval, u0, u1, hl]
        exact ⟨hG, fun j v _ h => h, .inl ⟨rfl, _, rfl, by show Value.string _ = _; rw [hy]⟩⟩
      · have h0 := hd ⟨7, .data⟩ (by simp) rfl
        have hz := size_mk (bitsOf up nu ++ [47] ++ bitsOf dn nd)
        have hy := sizes_add (a := bitsOf up nu ++ [47] ++ bitsOf dn nd) (b := [47]) rfl rfl
        generalize hx : ByteArray.mk (bitsOf up nu ++ [47] ++ bitsOf dn nd).toArray = x at *
        have u0 : a.tmps[13]?.getD undef = .string x := by
          have h : a.tmps.getD 13 undef = _ := h0
          simpa [← hx] using h
        have hl : ¬ 9223372036854775807 < x.size + 1 := by rw [hz]; simp; omega
        unfold Oper.wp
        simp [go_sem, Act.eval, u0, hl]
        exact ⟨hG, fun j v _ h => h, .inl ⟨rfl, _, rfl, by show Value.string _ = _; rw [hy]⟩⟩
      · unfold Oper.wp
        simp [go_sem, Act.eval, t1]
        exact ⟨hG, fun j v _ h => h, .inl ⟨rfl, _, rfl, rfl⟩⟩
      · have h0 := hd ⟨9, .data⟩ (by simp) rfl
        have u0 : a.tmps[15]?.getD undef = .pointer (some ⟨w.heap.size, 2, none⟩) := by simpa [CtR, CtV] using h0
        unfold Oper.wp
        simp [go_sem, Act.eval, u0, c0]
        exact ⟨hG, fun j v _ h => h, .inl ⟨rfl, _, rfl, rfl⟩⟩
      · have h0 := hd ⟨10, .data⟩ (by simp) rfl
        have u0 : a.tmps[16]?.getD undef = .slice C nc cc := by simpa [CtR, CtV] using h0
        unfold Oper.wp
        simp [go_sem, Act.eval, u0]
        refine (impl_bits HN.out.2.2 (by have := hG.size; omega) (HC1.out.below (hG.mono (by omega)))).mono ?_
        rintro e w' ⟨rfl, hb⟩
        exact ⟨hG.trans (hb.mono hG.size), fun j v _ h => h, .inl ⟨rfl, _, rfl, rfl⟩⟩
      · have h0 := hd ⟨8, .data⟩ (by simp) rfl
        have h1 := hd ⟨11, .data⟩ (by simp) rfl
        have hz := size_mk (bitsOf up nu ++ [47] ++ bitsOf dn nd ++ [47])
        have hz2 := size_mk (bitsOf car nc)
        have hy := sizes_add (a := bitsOf up nu ++ [47] ++ bitsOf dn nd ++ [47]) (b := bitsOf car nc) rfl rfl
        generalize hx : ByteArray.mk (bitsOf up nu ++ [47] ++ bitsOf dn nd ++ [47]).toArray = x at *
        generalize hx2 : ByteArray.mk (bitsOf car nc).toArray = x2 at *
        have u0 : a.tmps[14]?.getD undef = .string x := by
          have h : a.tmps.getD 14 undef = _ := h0
          simpa [← hx] using h
        have u1 : a.tmps[17]?.getD undef = .string x2 := by
          have h : a.tmps.getD 17 undef = _ := h1
          simpa [← hx2] using h
        have hl : ¬ 9223372036854775807 < x.size + x2.size := by rw [hz, hz2]; simp; omega
        unfold Oper.wp
        simp [go_sem, Act.eval, u0, u1, hl]
        exact ⟨hG, fun j v _ h => h, .inl ⟨rfl, _, rfl, by show Value.string _ = _; rw [hy]⟩⟩
      · have h0 := hd ⟨12, .data⟩ (by simp) rfl
        generalize hx : ByteArray.mk (bitsOf up nu ++ [47] ++ bitsOf dn nd ++ [47] ++ bitsOf car nc).toArray = x at *
        have u0 : a.tmps[18]?.getD undef = .string x := by
          have h : a.tmps.getD 18 undef = _ := h0
          simpa [← hx] using h
        unfold Oper.wp
        simp [go_sem, Act.eval, u0]
        exact ⟨hG, fun j v _ h => h, .inl ⟨rfl, _, rfl, by show Value.string _ = _; rw [← hx]⟩⟩
set_option maxRecDepth 100000 in
set_option maxHeartbeats 3200000 in
theorem spec_CallsText {w : World} {B : Nat} {U D C : Option Addr} {nu cu nd cd nc cc : Nat} {up dn car : Nat → Bool} (n1 : nu ≤ 9223372036854775806) (n2 : nd ≤ 9223372036854775806) (n3 : nc ≤ 9223372036854775806) (hB : B ≤ w.heap.size)
    (hu : Bools w B U nu up) (hd : Bools w B D nd dn) (hc : Bools w B C nc car) :
    Calls Tryz.prog 110 #[.agg #[.slice U nu cu, .slice D nd cd, .slice C nc cc]] w fun e w' => e = .returned (.string ⟨(callsT nu nd nc up dn car).toArray⟩) ∧ Below w.heap.size w w' := by
  have HX0 := Lib.hid (Bx.new w #[.slice U nu cu, .slice D nd cd, .slice C nc cc] 32)
  have HB0 := Lib.hid ((Below.refl w.heap.size w).alloc (Nat.le_refl _) (.cells #[.slice U nu cu, .slice D nd cd, .slice C nc cc] 32))
  have HU := Lib.hid (hu.below ((Below.refl B w).alloc hB (.cells #[.slice U nu cu, .slice D nd cd, .slice C nc cc] 32)))
  have HD := Lib.hid (hd.below ((Below.refl B w).alloc hB (.cells #[.slice U nu cu, .slice D nd cd, .slice C nc cc] 32)))
  have HC := Lib.hid (hc.below ((Below.refl B w).alloc hB (.cells #[.slice U nu cu, .slice D nd cd, .slice C nc cc] 32)))
  clear hu hd hc
  go_enter Tryz.func110, Tryz.ntmps110
  go_wp2_with fail
  refine (spec_CallsValid n1 n2 n3 (by simp; omega) HU.out HD.out).mono ?_
  rintro e w1 ⟨rfl, hb1⟩
  have HX1 := Lib.hid (HX0.out.below hb1 HX0.out.lt)
  have HB1 := Lib.hid (HB0.out.trans (hb1.mono HB0.out.size))
  have HU1 := Lib.hid (HU.out.below (hb1.mono (by simp; omega)))
  have HD1 := Lib.hid (HD.out.below (hb1.mono (by simp; omega)))
  have HC1 := Lib.hid (HC.out.below (hb1.mono (by simp; omega)))
  have hs1 : w.heap.size + 1 ≤ w1.heap.size := by have := hb1.size; simpa using this
  clear hb1 HX0 HB0 HU HD HC
  cases hv : callsB nu nd nc up dn
  · have HT := Lib.hid (callsT_no (car := car) hv)
    clear hv
    go_wp2
    go_ret
    exact ⟨by rw [HT.out]; rfl, HB1.out⟩
  · have HT := Lib.hid (callsT_yes (car := car) hv)
    obtain ⟨h1, h2, h3, h4, -, -⟩ := callsB_iff.1 hv
    have l1 := bitsOf_length up nu
    have l2 := bitsOf_length dn nd
    have l3 := bitsOf_length car nc
    have HL : Hid ((bitsOf up nu).length ≤ 8 ∧ (bitsOf dn nd).length ≤ 8 ∧ (bitsOf car nc).length ≤ 8) := Lib.hid ⟨by omega, by omega, by omega⟩
    have HN : Hid (nu ≤ 1000 ∧ nd ≤ 1000 ∧ nc ≤ 1000) := Lib.hid ⟨by omega, by omega, by omega⟩
    unfold callsL at HT
    clear hv h1 h2 h3 h4 n1 n2 n3 l1 l2 l3
    go_wp2_with fail
    rename_i hK
    refine wp_region_any (by kernel_rfl) ?_
    refine wpAny_typed 14 (fun i => (#[6, 7, 8, 9, 10, 11, 12, 13, 14, 15, 16, 17, 18, 2] : Array Nat).getD i 0) (fun _ => false) (CtR w.heap.size (.slice U nu cu) (.slice D nd cd) (.slice C nc cc) (bitsOf up nu) (bitsOf dn nd) (bitsOf car nc)) (fun _ W => Below w1.heap.size w1 W) rfl 19 rfl (by kernel_rfl) (below_drewN (Below.refl _ _) 1) ?_ ?_
    · intro a W Un hR hG
      obtain ⟨F, hf, ha⟩ := Un.form [false, false, true, false, false, false, true, true, true, true, true, true, true, true, true, true, true, true, true] rfl (by decide)
      have h13 := hR 13 (by omega)
      have e2 : a.tmps.getD 2 undef = F 2 := hf 13 (by omega)
      have h2 : F 2 = .string ⟨(bitsOf up nu ++ [47] ++ bitsOf dn nd ++ [47] ++ bitsOf car nc).toArray⟩ := e2.symm.trans h13
      rw [← HT.out] at h2
      simp only [letters, cond_true, cond_false, Nat.reduceAdd, h2] at ha
      obtain ⟨kk, hkk, hg2⟩ := hG
      have HB := Lib.hid (HB1.out.trans (hg2.mono (by omega)))
      clear hR hf Un h13 e2 h2 hg2
      subst ha
      refine hK _ _ ?_
      generalize htx : ByteArray.mk (callsT nu nd nc up dn car).toArray = tx
      have HTX := Lib.hid htx
      clear htx
      go_wp2
      go_ret
      exact ⟨by rw [HTX.out]; rfl, HB.out⟩
    · intro i' o ho a W k' Un hG hk' hd
      have hlt : i' < 14 := (Array.getElem?_eq_some_iff.1 ho).1
      have hu1 := Un.other 1 (by decide)
      have t1 : a.tmps[1]?.getD undef = .pointer (some ⟨w.heap.size, 0, none⟩) := by simpa using hu1
      have c0 := (HX1.out.below hG HX1.out.lt).cells
      have hl1 := HL.out
      rcases (by omega : i' = 0 ∨ i' = 1 ∨ i' = 2 ∨ i' = 3 ∨ i' = 4 ∨ i' = 5 ∨ i' = 6 ∨ i' = 7 ∨ i' = 8 ∨ i' = 9 ∨ i' = 10 ∨ i' = 11 ∨ i' = 12 ∨ i' = 13) with rfl | rfl | rfl | rfl | rfl | rfl | rfl | rfl | rfl | rfl | rfl | rfl | rfl | rfl
      all_goals (refine wpOp_of ho (by cases ho; rfl) ?_; cases ho)
      · unfold Oper.wp
        simp [go_sem, Act.eval, t1]
        exact ⟨hG, fun j v _ h => h, .inl ⟨rfl, _, rfl, rfl⟩⟩
      · have h0 := hd ⟨0, .data⟩ (by simp) rfl
        have u0 : a.tmps[6]?.getD undef = .pointer (some ⟨w.heap.size, 0, none⟩) := by simpa [CtR, CtV] using h0
        unfold Oper.wp
        simp [go_sem, Act.eval, u0, c0]
        exact ⟨hG, fun j v _ h => h, .inl ⟨rfl, _, rfl, rfl⟩⟩
      · have h0 := hd ⟨1, .data⟩ (by simp) rfl
        have u0 : a.tmps[7]?.getD undef = .slice U nu cu := by simpa [CtR, CtV] using h0
        unfold Oper.wp
        simp [go_sem, Act.eval, u0]
        refine (spec_bits HN.out.1 (by have := hG.size; omega) (HU1.out.below (hG.mono (by omega)))).mono ?_
        rintro e w' ⟨rfl, hb⟩
        exact ⟨hG.trans (hb.mono hG.size), fun j v _ h => h, .inl ⟨rfl, _, rfl, rfl⟩⟩
      · have h0 := hd ⟨2, .data⟩ (by simp) rfl
        have hz := size_mk (bitsOf up nu)
        have hy := sizes_add (a := bitsOf up nu) (b := [47]) rfl rfl
        generalize hx : ByteArray.mk (bitsOf up nu).toArray = x at *
        have u0 : a.tmps[8]?.getD undef = .string x := by
          have h : a.tmps.getD 8 undef = _ := h0
          simpa [← hx] using h
        have hl : ¬ 9223372036854775807 < x.size + 1 := by rw [hz]; simp; omega
        unfold Oper.wp
        simp [go_sem, Act.eval, u0, hl]
        exact ⟨hG, fun j v _ h => h, .inl ⟨rfl, _, rfl, by show Value.string _ = _; rw [hy]⟩⟩
      · unfold Oper.wp
        simp [go_sem, Act.eval, t1]
        exact ⟨hG, fun j v _ h => h, .inl ⟨rfl, _, rfl, rfl⟩⟩
      · have h0 := hd ⟨4, .data⟩ (by simp) rfl
        have u0 : a.tmps[10]?.getD undef = .pointer (some ⟨w.heap.size, 1, none⟩) := by simpa [CtR, CtV] using h0
        unfold Oper.wp
        simp [go_sem, Act.eval, u0, c0]
        exact ⟨hG, fun j v _ h => h, .inl ⟨rfl, _, rfl, rfl⟩⟩
      · have h0 := hd ⟨5, .data⟩ (by simp) rfl
        have u0 : a.tmps[11]?.getD undef = .slice D nd cd := by simpa [CtR, CtV] using h0
        unfold Oper.wp
        simp [go_sem, Act.eval, u0]
        refine (spec_bits HN.out.2.1 (by have := hG.size; omega) (HD1.out.below (hG.mono (by omega)))).mono ?_
        rintro e w' ⟨rfl, hb⟩
        exact ⟨hG.trans (hb.mono hG.size), fun j v _ h => h, .inl ⟨rfl, _, rfl, rfl⟩⟩
      · have h0 := hd ⟨3, .data⟩ (by simp) rfl
        have h1 := hd ⟨6, .data⟩ (by simp) rfl
        have hz := size_mk (bitsOf up nu ++ [47])
        have hz2 := size_mk (bitsOf dn nd)
        have hy := sizes_add (a := bitsOf up nu ++ [47]) (b := bitsOf dn nd) rfl rfl
        generalize hx : ByteArray.mk (bitsOf up nu ++ [47]).toArray = x at *
        generalize hx2 : ByteArray.mk (bitsOf dn nd).toArray = x2 at *
        have u0 : a.tmps[9]?.getD undef = .string x := by
          have h : a.tmps.getD 9 undef = _ := h0
          simpa [← hx] using h
        have u1 : a.tmps[12]?.getD undef = .string x2 := by
          have h : a.tmps.getD 12 undef = _ := h1
          simpa [← hx2] using h
        have hl : ¬ 9223372036854775807 < x.size + x2.size := by rw [hz, hz2]; simp; omega
        unfold Oper.wp
        simp [go_sem, Act.eval, u0, u1, hl]
        exact ⟨hG, fun j v _ h => h, .inl ⟨rfl, _, rfl, by show Value.string _ = _; rw [hy]⟩⟩
      · have h0 := hd ⟨7, .data⟩ (by simp) rfl
        have hz := size_mk (bitsOf up nu ++ [47] ++ bitsOf dn nd)
        have hy := sizes_add (a := bitsOf up nu ++ [47] ++ bitsOf dn nd) (b := [47]) rfl rfl
        generalize hx : ByteArray.mk (bitsOf up nu ++ [47] ++ bitsOf dn nd).toArray = x at *
        have u0 : a.tmps[13]?.getD undef = .string x := by
          have h : a.tmps.getD 13 undef = _ := h0
          simpa [← hx] using h
        have hl : ¬ 9223372036854775807 < x.size + 1 := by rw [hz]; simp; omega
        unfold Oper.wp
        simp [go_sem, Act.eval, u0, hl]
        exact ⟨hG, fun j v _ h => h, .inl ⟨rfl, _, rfl, by show Value.string _ = _; rw [hy]⟩⟩
      · unfold Oper.wp
        simp [go_sem, Act.eval, t1]
        exact ⟨hG, fun j v _ h => h, .inl ⟨rfl, _, rfl, rfl⟩⟩
      · have h0 := hd ⟨9, .data⟩ (by simp) rfl
        have u0 : a.tmps[15]?.getD undef = .pointer (some ⟨w.heap.size, 2, none⟩) := by simpa [CtR, CtV] using h0
        unfold Oper.wp
        simp [go_sem, Act.eval, u0, c0]
        exact ⟨hG, fun j v _ h => h, .inl ⟨rfl, _, rfl, rfl⟩⟩
      · have h0 := hd ⟨10, .data⟩ (by simp) rfl
        have u0 : a.tmps[16]?.getD undef = .slice C nc cc := by simpa [CtR, CtV] using h0
        unfold Oper.wp
        simp [go_sem, Act.eval, u0]
        refine (spec_bits HN.out.2.2 (by have := hG.size; omega) (HC1.out.below (hG.mono (by omega)))).mono ?_
        rintro e w' ⟨rfl, hb⟩
        exact ⟨hG.trans (hb.mono hG.size), fun j v _ h => h, .inl ⟨rfl, _, rfl, rfl⟩⟩
      · have h0 := hd ⟨8, .data⟩ (by simp) rfl
        have h1 := hd ⟨11, .data⟩ (by simp) rfl
        have hz := size_mk (bitsOf up nu ++ [47] ++ bitsOf dn nd ++ [47])
        have hz2 := size_mk (bitsOf car nc)
        have hy := sizes_add (a := bitsOf up nu ++ [47] ++ bitsOf dn nd ++ [47]) (b := bitsOf car nc) rfl rfl
        generalize hx : ByteArray.mk (bitsOf up nu ++ [47] ++ bitsOf dn nd ++ [47]).toArray = x at *
        generalize hx2 : ByteArray.mk (bitsOf car nc).toArray = x2 at *
        have u0 : a.tmps[14]?.getD undef = .string x := by
          have h : a.tmps.getD 14 undef = _ := h0
          simpa [← hx] using h
        have u1 : a.tmps[17]?.getD undef = .string x2 := by
          have h : a.tmps.getD 17 undef = _ := h1
          simpa [← hx2] using h
        have hl : ¬ 9223372036854775807 < x.size + x2.size := by rw [hz, hz2]; simp; omega
        unfold Oper.wp
        simp [go_sem, Act.eval, u0, u1, hl]
        exact ⟨hG, fun j v _ h => h, .inl ⟨rfl, _, rfl, by show Value.string _ = _; rw [hy]⟩⟩
      · have h0 := hd ⟨12, .data⟩ (by simp) rfl
        generalize hx : ByteArray.mk (bitsOf up nu ++ [47] ++ bitsOf dn nd ++ [47] ++ bitsOf car nc).toArray = x at *
        have u0 : a.tmps[18]?.getD undef = .string x := by
          have h : a.tmps.getD 18 undef = _ := h0
          simpa [← hx] using h
        unfold Oper.wp
        simp [go_sem, Act.eval, u0]
        exact ⟨hG, fun j v _ h => h, .inl ⟨rfl, _, rfl, by show Value.string _ = _; rw [← hx]⟩⟩
end Go.Proofs.YthkpikkjgggimaaGreatDoor

namespace Go.Proofs.YthkpikkjgggimaaGreatDoor
open Go.RowKit
set_option linter.unusedVariables false
set_option linter.unusedSimpArgs false

/-- A text is the bytes l. -/
def isT (s : ByteArray) (l : List UInt8) : Bool := s.toList == l
theorem isT_iff {s : ByteArray} {l : List UInt8} : isT s l = true ↔ s = ⟨l.toArray⟩ := by
  unfold isT
  rw [beq_iff_eq]
  constructor
  · rintro rfl
    rw [ByteArray.toList_eq]
  · rintro rfl
    rw [ByteArray.toList_eq]
theorem isT_other {s : ByteArray} {l m : List UInt8} (h : isT s l = true) (hne : (l == m) = false) : isT s m = false := by
  unfold isT at h ⊢
  rw [beq_iff_eq] at h
  rw [h, hne]
def wUp : List UInt8 := [117, 112]
def wDown : List UInt8 := [100, 111, 119, 110]
def wCar : List UInt8 := [99, 97, 114]
/-- The kind of the calls that a word names; -1 if it names none. -/
def kindOf (s : ByteArray) : Int := if isT s wUp = true then 0 else if isT s wDown = true then 1 else if isT s wCar = true then 2 else -1
theorem impl_kind (s : ByteArray) (w : World) : Calls Tryz.prog 49 #[.string s] w fun e w' => e = .returned (.int .i64 (kindOf s)) ∧ w = w' := by
  cases h1 : isT s wUp
  · cases h2 : isT s wDown
    · cases h3 : isT s wCar
      · have HK : Hid (kindOf s = -1) := by simp [Hid, kindOf, h1, h2, h3]
        have g1 : (s.toList == [117, 112]) = false := h1
        have g2 : (s.toList == [100, 111, 119, 110]) = false := h2
        have g3 : (s.toList == [99, 97, 114]) = false := h3
        clear h1 h2 h3
        go_enter Tryz.func49, Tryz.ntmps49
        go_wp2
        go_ret
        exact ⟨by rw [HK.out]; rfl, rfl⟩
      · have HK : Hid (kindOf s = 2) := by simp [Hid, kindOf, h1, h2, h3]
        have g1 : (s.toList == [117, 112]) = false := h1
        have g2 : (s.toList == [100, 111, 119, 110]) = false := h2
        have g3 : (s.toList == [99, 97, 114]) = true := h3
        clear h1 h2 h3
        go_enter Tryz.func49, Tryz.ntmps49
        go_wp2
        go_ret
        exact ⟨by rw [HK.out]; rfl, rfl⟩
    · have HK : Hid (kindOf s = 1) := by simp [Hid, kindOf, h1, h2]
      have g1 : (s.toList == [117, 112]) = false := h1
      have g2 : (s.toList == [100, 111, 119, 110]) = true := h2
      clear h1 h2
      go_enter Tryz.func49, Tryz.ntmps49
      go_wp2
      go_ret
      exact ⟨by rw [HK.out]; rfl, rfl⟩
  · have HK : Hid (kindOf s = 0) := by simp [Hid, kindOf, h1]
    have g1 : (s.toList == [117, 112]) = true := h1
    clear h1
    go_enter Tryz.func49, Tryz.ntmps49
    go_wp2
    go_ret
    exact ⟨by rw [HK.out]; rfl, rfl⟩
theorem spec_kind (s : ByteArray) (w : World) : Calls Tryz.prog 55 #[.string s] w fun e w' => e = .returned (.int .i64 (kindOf s)) ∧ w = w' := by
  cases h1 : isT s wUp
  · cases h2 : isT s wDown
    · cases h3 : isT s wCar
      · have HK : Hid (kindOf s = -1) := by simp [Hid, kindOf, h1, h2, h3]
        have g1 : (s.toList == [117, 112]) = false := h1
        have g2 : (s.toList == [100, 111, 119, 110]) = false := h2
        have g3 : (s.toList == [99, 97, 114]) = false := h3
        clear h1 h2 h3
        go_enter Tryz.func55, Tryz.ntmps55
        go_wp2
        go_ret
        exact ⟨by rw [HK.out]; rfl, rfl⟩
      · have HK : Hid (kindOf s = 2) := by simp [Hid, kindOf, h1, h2, h3]
        have g1 : (s.toList == [117, 112]) = false := h1
        have g2 : (s.toList == [100, 111, 119, 110]) = false := h2
        have g3 : (s.toList == [99, 97, 114]) = true := h3
        clear h1 h2 h3
        go_enter Tryz.func55, Tryz.ntmps55
        go_wp2
        go_ret
        exact ⟨by rw [HK.out]; rfl, rfl⟩
    · have HK : Hid (kindOf s = 1) := by simp [Hid, kindOf, h1, h2]
      have g1 : (s.toList == [117, 112]) = false := h1
      have g2 : (s.toList == [100, 111, 119, 110]) = true := h2
      clear h1 h2
      go_enter Tryz.func55, Tryz.ntmps55
      go_wp2
      go_ret
      exact ⟨by rw [HK.out]; rfl, rfl⟩
  · have HK : Hid (kindOf s = 0) := by simp [Hid, kindOf, h1]
    have g1 : (s.toList == [117, 112]) = true := h1
    clear h1
    go_enter Tryz.func55, Tryz.ntmps55
    go_wp2
    go_ret
    exact ⟨by rw [HK.out]; rfl, rfl⟩
end Go.Proofs.YthkpikkjgggimaaGreatDoor

namespace Go.Proofs.YthkpikkjgggimaaGreatDoor
open Go.RowKit
set_option linter.unusedVariables false
set_option linter.unusedSimpArgs false

/-- The world has its shape, and the table of powers of ten reads as it was laid. -/
structure Here (w : World) : Prop where
  s : w.ShapedOpen Tryz.prog
  t : Lib.TabIs Tryz.prog w "internal/strconv.uint64pow10" .u64 Lib.pow10Tab
theorem Here.below {w w' : World} (h : Here w) (hb : Below w.heap.size w w') : Here w' :=
  ⟨h.s.keptBut (may := fun _ => False) (hb.frame _) (fun _ e => e.elim), Lib.tabBelow_of_tabIs h.t w' hb⟩
theorem Here.base {w w' : World} {B : Nat} (h : Here w) (hb : Below B w w') (hB : w.heap.size ≤ B) : Here w' := h.below (hb.mono hB)

theorem itoa_nat (i : Nat) : Lib.itoa (i : Int) = Lib.decDigits i := by
  unfold Lib.itoa
  rw [if_neg (by omega), Int.toNat_natCast]
theorem itoa_neg {i : Nat} (h : 0 < i) : Lib.itoa (-(i : Int)) = 45 :: Lib.decDigits i := by
  unfold Lib.itoa
  rw [if_pos (by omega)]
  simp
theorem Itoa_any (n : Int) (h0 : -1000000 ≤ n) (h1 : n ≤ 1000000) {w : World} (h : Here w) :
    Calls Tryz.prog 45 #[.int .i64 n] w fun e w' => e = .returned (.string ⟨(Lib.itoa n).toArray⟩) ∧ Below w.heap.size w w' := by
  refine (Tryz.strconv_Itoa n (by omega) (by omega) w h.t).mono ?_
  rintro e w' ⟨rfl, k, os, rfl⟩
  exact ⟨rfl, Lib.below_grow _ _ (Nat.le_refl _) _ _⟩

set_option maxRecDepth 100000 in
set_option maxHeartbeats 1600000 in
theorem l1Number_int (n : Int) (h0 : -1000000 ≤ n) (h1 : n ≤ 1000000) (w : World) :
    Calls Tryz.prog 58 #[.int .i64 n] w fun e w' => e = .returned (.string ⟨(Lib.itoa n).toArray⟩) ∧ Below w.heap.size w w' := by
  by_cases hn : 0 ≤ n
  · obtain ⟨i, rfl⟩ := Int.eq_ofNat_of_zero_le hn
    rw [itoa_nat]
    exact l1Number_any (by omega) w
  · obtain ⟨i, rfl⟩ : ∃ i : Nat, n = -(i : Int) := ⟨n.natAbs, by omega⟩
    have hi : 0 < i := by omega
    have HT := Lib.hid (itoa_neg hi)
    have HC := Lib.hid (l1Number_any (i := i) (by omega) w)
    have HL := Lib.hid (decDigits_short i (by omega))
    have q0 : (-(i : Int)) < 0 := by omega
    have q1 : ((-(i : Int)) == (i : Int)) = false := by simp; omega
    have q2 : IntKind.i64.wrap (i : Int) = (i : Int) := IntWalk.i64_in _ (by omega)
    have hz : (ByteArray.mk (Lib.decDigits i).toArray).size ≤ 1000001 := by
      show (Lib.decDigits i).toArray.size ≤ _
      have := HL.out
      simp; omega
    have hy : ByteArray.mk (45 :: Lib.decDigits i).toArray = ByteArray.mk #[45] ++ ByteArray.mk (Lib.decDigits i).toArray := by
      rw [ByteArray.mk_append_mk]; rfl
    generalize ByteArray.mk (Lib.decDigits i).toArray = x at *
    have HY := Lib.hid hy
    clear hy hn
    go_enter Tryz.func58, Tryz.ntmps58
    go_wp2_with (go_at_call 58; refine HC.out.mono ?_; rintro e w1 ⟨rfl, hb1⟩)
    go_ret
    exact ⟨by rw [HT.out, HY.out]; rfl, hb1⟩
end Go.Proofs.YthkpikkjgggimaaGreatDoor

namespace Go.Proofs.YthkpikkjgggimaaGreatDoor
open Go.RowKit
set_option linter.unusedVariables false
set_option linter.unusedSimpArgs false

/-- A text cut at its spaces. -/
def cutL : List UInt8 → List (List UInt8)
  | [] => [[]]
  | b :: l => if b = 32 then [] :: cutL l else match cutL l with | [] => [[b]] | x :: r => (b :: x) :: r
theorem cutL_none : ∀ l : List UInt8, (∀ b ∈ l, b ≠ 32) → cutL l = [l]
  | [], _ => rfl
  | b :: l, h => by
    rw [cutL, if_neg (h b (by simp)), cutL_none l fun c hc => h c (by simp [hc])]
theorem cutL_at : ∀ (p r : List UInt8), (∀ b ∈ p, b ≠ 32) → cutL (p ++ 32 :: r) = p :: cutL r
  | [], r, _ => by rw [List.nil_append, cutL, if_pos rfl]
  | b :: p, r, h => by
    rw [List.cons_append, cutL, if_neg (h b (by simp)), cutL_at p r fun c hc => h c (by simp [hc])]
theorem cutL_ne (l : List UInt8) : cutL l ≠ [] := by
  cases l with
  | nil => simp [cutL]
  | cons b l =>
    rw [cutL]
    split
    · simp
    · split <;> simp
/-- The words of a text. -/
def wordsB (s : ByteArray) : List ByteArray := (cutL s.data.toList).map fun x => ⟨x.toArray⟩
def wordAt (s : ByteArray) (i : Nat) : ByteArray := (wordsB s).getD i ByteArray.empty
def readN (s : ByteArray) : Nat := (wordsB s).length
theorem wordsB_cut (s : ByteArray) : (wordsB s).map (·.data.toList) = cutL s.data.toList := by
  rw [wordsB, List.map_map]
  conv => rhs; rw [← List.map_id (cutL s.data.toList)]
  exact List.map_congr_left fun x _ => by simp
theorem ba_ext {a b : ByteArray} (h : a.data.toList = b.data.toList) : a = b := by
  cases a; cases b
  simp only [ByteArray.mk.injEq]
  exact Array.toList_inj.1 h
theorem wordsB_of {s : ByteArray} {l : List ByteArray} (h : l.map (·.data.toList) = cutL s.data.toList) : l = wordsB s := by
  rw [← wordsB_cut] at h
  have : ∀ (a b : List ByteArray), a.map (·.data.toList) = b.map (·.data.toList) → a = b := by
    intro a
    induction a with
    | nil => intro b hb; cases b with | nil => rfl | cons => cases hb
    | cons x a ih => intro b hb; cases b with | nil => cases hb | cons y b => simp only [List.map_cons, List.cons.injEq] at hb; rw [ba_ext hb.1, ih b hb.2]
  exact this _ _ h

theorem byteAt_list (s : ByteArray) (k : Nat) (h : k < s.size) : s.data.toList[k]? = some (UInt8.ofNat (byteAt s k)) := by
  have h' : k < s.data.size := h
  have e : s[k] = s.data[k] := rfl
  rw [Array.getElem?_toList, Array.getElem?_eq_getElem h', ← byteAt_of h, e]
  simp
theorem Tryz.infoStr : (Tryz.prog.info? 9).map (fun i => (i.zero, i.size, i.bytes)) = some (some (.string ByteArray.empty), 1, 16) := by kernel_rfl
def svals (l : List ByteArray) : List Value := l.map Value.string
theorem svals_one {l : List ByteArray} : ∀ u ∈ svals l, u.oneCell' = true := by
  intro u hu
  obtain ⟨_, _, rfl⟩ := List.mem_map.1 hu
  rfl
/-- The slice v is a row of the call's own: it holds the texts l, in a block from base on. -/
def SRow (w : World) (base : Nat) (v : Value) (l : List ByteArray) : Prop := w.ownsRow base 9 1 v l.length (svals l)
/-- A slice of texts reads as l, and lies below block B. -/
def Strs (w : World) (B : Nat) (A : Option Addr) (l : List ByteArray) : Prop :=
  0 < l.length → ∃ b, A = some ⟨b, 0, none⟩ ∧ b < B ∧ ∀ i, i < l.length → w.cell? ⟨b, 0 + i, none⟩ = some (.string (l.getD i ByteArray.empty))
theorem svals_get {l : List ByteArray} {i : Nat} (h : i < l.length) : (svals l)[i]? = some (.string (l.getD i ByteArray.empty)) := by
  simp [svals, h]
theorem Strs.keep {w w' : World} {B : Nat} {A : Option Addr} {l : List ByteArray} (h : Strs w B A l) (hk : ∀ p : Addr, p.block < B → w'.cell? p = w.cell? p) : Strs w' B A l := by
  intro hn
  obtain ⟨b, hA, hb, hc⟩ := h hn
  exact ⟨b, hA, hb, fun i hi => (hk _ hb).trans (hc i hi)⟩
theorem Strs.below {w w' : World} {B : Nat} {A : Option Addr} {l : List ByteArray} (h : Strs w B A l) (hb : Below B w w') : Strs w' B A l := h.keep fun _ hp => hb.cell hp
section
variable {w w' : World} {base : Nat} {A : Option Addr} {n c : Nat} {l : List ByteArray} {v : Value}
theorem SRow.shape (h : SRow w base v l) : ∃ A c, v = .slice A l.length c := by
  rcases h.2 with ⟨rfl, h0⟩ | ⟨b, cap, cur, rfl, _⟩
  · exact ⟨none, 0, by rw [h0]⟩
  · exact ⟨_, _, rfl⟩
theorem SRow.strs (h : SRow w base (.slice A n c) l) : Strs w w.heap.size A l := by
  intro hn
  obtain ⟨b, cap, hv, _, hlt⟩ := World.ownsRow.form h hn
  obtain ⟨rfl, -, rfl⟩ : A = some ⟨b, 0, none⟩ ∧ n = l.length ∧ c = cap := by simpa using hv
  refine ⟨b, rfl, hlt, fun i hi => ?_⟩
  obtain rfl : n = l.length := by have := hv; simp at this; exact this
  rw [Nat.zero_add, World.ownsRow.cellAt h i (by omega), svals_get hi]
theorem SRow.kept {row : Option Nat} (h : SRow w base v l) (hg : w.grownBy w' row) (hne : row = none ∨ ∀ b, row = some b → b < base ∨ w.heap.size ≤ b) : SRow w' base v l := by
  refine World.ownsRow.kept h hg ?_
  cases hb : v.ownBlock with
  | none => exact .inl rfl
  | some b =>
    right
    have := World.ownsRow.lt h b hb
    rcases hne with rfl | hne
    · simp
    · intro e
      have := hne b e.symm
      omega
theorem SRow.below {B : Nat} (h : SRow w base v l) (hb : Below B w w') (hB : w.heap.size ≤ B) : SRow w' base v l :=
  h.kept (row := none) ⟨hb.os, hb.tape, hb.output, hb.size, fun k hk _ => hb.block k (by omega)⟩ (.inl rfl)
theorem SRow.drewN (h : SRow w base v l) (k : Nat) : SRow (w.drewN k) base v l := h
theorem SRow.drew (h : SRow w base v l) : SRow w.drew base v l := h
theorem SRow.alloc (h : SRow w base v l) (o : Obj) : SRow (w.alloc o) base v l := h.kept (World.grownBy_alloc w o none) (.inl rfl)
theorem SRow.own (h : SRow w base v l) : ∀ b, v.ownBlock = some b → base ≤ b := fun b hb => (World.ownsRow.lt h b hb).1
end
theorem SRow.empty {w : World} {base : Nat} (hb : base ≤ w.heap.size) : SRow (w.alloc (.cells #[] 9)) base (.slice (some ⟨w.heap.size, 0, none⟩) 0 0) [] := by
  have h := World.ownsRow_lit (e := 9) (size := 1) (base := base) w #[] 0 hb (Nat.zero_le _) (by simp)
  simpa [SRow, svals] using h

theorem srow_shape {w : World} {base : Nat} {v : Value} {n : Nat} {xs : List Value} (h : w.ownsRow base 9 1 v n xs) : ∃ A c, v = .slice A n c := by
  rcases h.2 with ⟨rfl, rfl⟩ | ⟨b, cap, cur, rfl, _⟩
  · exact ⟨_, _, rfl⟩
  · exact ⟨_, _, rfl⟩
/-- append of one text onto a row of the call's own. -/
theorem append_str (W : World) {ops : Array Oper} {rest : List Oper} {o : Oper} {a : Act} {Q : Exit → Act → World → Prop} (hg : o.guard = none) (s x : Operand)
    (hop : o.op = Op.call { callee := Callee.builtin Builtin.append, args := #[s, x], argTypes := #[37, 37] }) {base : Nat} {A : Option Addr} {n c : Nat} {l : List ByteArray}
    (hs : a.eval s = .slice A n c) (hr : SRow W base (.slice A n c) l) (g : Nat) (X : ByteArray) (hx : a.eval x = .slice (some ⟨g, 0, none⟩) 1 1) (hcell : W.cell? ⟨g, 0, none⟩ = some (.string X))
    (hn : l.length ≤ 1000000000) (hb : base ≤ W.heap.size)
    (hK : ∀ A' c' w', SRow w' base (.slice A' (l.length + 1) c') (l ++ [X]) → W.grownBy w' (Value.slice A n c).ownBlock → wpList Tryz.prog ops Q rest (a.put o.dst (.slice A' (l.length + 1 : Nat) c')) w') : wpList Tryz.prog ops Q (o :: rest) a W := by
  obtain ⟨i0, hi, hz0, hz1, hz2⟩ := info_parts Tryz.infoStr
  refine wpList_append_own W hg s x 37 hop base 9 i0 (.string ByteArray.empty) 1 16 Tryz.underlying37 hi hz0 hz1 hz2 rfl (by decide) _ _ _ hs hr ⟨g, 0, none⟩ 1 1 [.string X] hx rfl ?_ ?_ (by unfold maxLen; omega) (by omega) hb ?_
  · intro j u hj
    match j, hj with
    | 0, hj => simp at hj; subst hj; simpa [Addr.add] using hcell
  · intro u hu; simp at hu; subst hu; rfl
  · intro v' w' hown hgrow _
    obtain ⟨A', c', rfl⟩ := srow_shape hown
    refine hK A' c' w' ?_ hgrow
    unfold SRow
    rw [List.length_append, svals, List.map_append]
    exact hown

/-- No space at the places from a to b. -/
def NoC (s : ByteArray) (a b : Nat) : Prop := ∀ i, a ≤ i → i < b → byteAt s i ≠ 32
theorem piece_list (s : ByteArray) (a b : Nat) : (s.extract a b).data.toList = (s.data.toList.drop a).take (b - a) := by
  obtain ⟨⟨l⟩⟩ := s
  have := ByteArray.extract_mk l a b
  simp only at this ⊢
  rw [this]
theorem piece_noC {s : ByteArray} {a b : Nat} (hb : b ≤ s.size) (h : NoC s a b) : ∀ x ∈ (s.extract a b).data.toList, x ≠ 32 := by
  intro x hx e
  subst e
  rw [piece_list] at hx
  obtain ⟨i, hi, he⟩ := List.getElem_of_mem hx
  rw [List.length_take, List.length_drop] at hi
  rw [List.getElem_take, List.getElem_drop] at he
  have h1 : a + i < s.size := by omega
  have h2 := byteAt_list s (a + i) h1
  rw [List.getElem?_eq_getElem (by simpa using h1), he] at h2
  have h3 := h (a + i) (by omega) (by omega)
  have h4 := byteAt_lt s (a + i)
  have h5 : (32 : UInt8) = UInt8.ofNat (byteAt s (a + i)) := by simpa using h2
  have h6 := congrArg UInt8.toNat h5
  rw [UInt8.toNat_ofNat'] at h6
  simp at h6
  omega
theorem cut_step {s : ByteArray} {l : List ByteArray} {a k : Nat} (ha : a ≤ k) (hk : k < s.size) (hb : byteAt s k = 32) (hn : NoC s a k) (h : l.map (·.data.toList) ++ cutL (s.data.toList.drop a) = cutL s.data.toList) :
    (l ++ [s.extract a k]).map (·.data.toList) ++ cutL (s.data.toList.drop (k + 1)) = cutL s.data.toList := by
  have hl : s.data.toList.length = s.size := by simp
  have e : s.data.toList.drop a = (s.extract a k).data.toList ++ 32 :: s.data.toList.drop (k + 1) := by
    rw [piece_list]
    have h1 := byteAt_list s k hk
    rw [hb] at h1
    have h2 : s.data.toList.drop k = 32 :: s.data.toList.drop (k + 1) := by
      rw [List.drop_eq_getElem_cons (by omega)]
      have := (List.getElem?_eq_some_iff.1 h1).2
      rw [this]
      rfl
    rw [← h2]
    conv => lhs; rw [← List.take_append_drop (k - a) (s.data.toList.drop a), List.drop_drop, show a + (k - a) = k by omega]
  rw [e, cutL_at _ _ (piece_noC (by omega) hn)] at h
  rw [List.map_append, List.map_singleton, List.append_assoc]
  exact h
theorem cut_end {s : ByteArray} {l : List ByteArray} {a : Nat} (hn : NoC s a s.size) (h : l.map (·.data.toList) ++ cutL (s.data.toList.drop a) = cutL s.data.toList) :
    l ++ [s.extract a s.size] = wordsB s := by
  apply wordsB_of
  have hp := piece_noC (Nat.le_refl _) hn
  have e : (s.extract a s.size).data.toList = s.data.toList.drop a := by
    rw [piece_list]
    exact List.take_of_length_le (by rw [List.length_drop]; show s.data.toList.length - a ≤ s.data.size - a; simp)
  rw [e] at hp
  rw [cutL_none _ hp] at h
  rw [List.map_append, List.map_singleton, e]
  exact h

set_option maxRecDepth 100000 in
set_option maxHeartbeats 1600000 in
theorem l1Cut_any (s : ByteArray) (hs : s.size ≤ 1048577) (w : World) :
    Calls Tryz.prog 54 #[.string s, .int .u8 32] w fun e w' => ∃ A c, e = .returned (.slice A (readN s) c) ∧ SRow w' w.heap.size (.slice A (readN s) c) (wordsB s) ∧ Below w.heap.size w w' := by
  have HR0 := Lib.hid (SRow.empty (w := w) (Nat.le_refl _))
  have HB0 := Lib.hid ((Below.refl w.heap.size w).alloc (Nat.le_refl _) (.cells #[] 9))
  go_enter Tryz.func54, Tryz.ntmps54
  go_wp2
  go_loopw [5, 6, 7] (fun s5 s6 s7 wr => ∃ (l : List ByteArray) (A : Option Addr) (c fr k : Nat), fr ≤ k ∧ k ≤ s.size ∧ l.length ≤ k ∧ s5 = .slice A l.length c ∧ s6 = .int .i64 fr ∧ s7 = .int .i64 k ∧ Hid (NoC s fr k) ∧ Hid (l.map (·.data.toList) ++ cutL (s.data.toList.drop fr) = cutL s.data.toList) ∧ Hid (SRow wr w.heap.size (.slice A l.length c) l) ∧ Hid (Below w.heap.size w wr)) (fun _ _ s7 _ => s.size - (intOf s7).toNat)
  case atStart => exact ⟨[], _, _, 0, 0, Nat.le_refl _, Nat.zero_le _, Nat.le_refl _, rfl, rfl, rfl, fun i h1 h2 => absurd h2 (by omega), by simp [Hid], HR0, HB0⟩
  case round =>
    obtain ⟨l, A, c, fr, k, hfr, hk, hln, rfl, rfl, rfl, HNC, HC, HR, HB⟩ := hrel
    have hwz := HB.out.size
    by_cases hlt : k < s.size
    · have hb := byteAt_of hlt
      by_cases hc : byteAt s k = 32
      · have HC2 := Lib.hid (cut_step hfr hlt hc HNC.out HC.out)
        have hx : ((s[k].toNat : Int) == 32) = true := by simp; omega
        clear hb
        go_wp2_with (at_builtin; refine append_str _ rfl _ _ rfl rfl (HR.out.alloc _) wr.heap.size (s.extract fr k) rfl (by simp) (by omega) (by simp; omega) ?_; intro A3 c3 w3 hr3 hg3; have HR3 := Lib.hid hr3; have HG3 := Lib.hid hg3; clear hr3 hg3)
        have hb3 : Below w.heap.size w w3 := (HB.out.alloc hwz _).grown HG3.out (by simp; omega) HR.out.own
        refine ⟨⟨l ++ [s.extract fr k], A3, c3, k + 1, k + 1, Nat.le_refl _, by omega, by simp; omega, by rw [List.length_append]; rfl, by go_num, by go_num, fun i h1 h2 => absurd h1 (by omega), HC2, ?_, hb3⟩, by simp [intOf]; omega⟩
        show SRow _ _ _ _
        rw [List.length_append]
        exact HR3.out
      · have hx : ((s[k].toNat : Int) == 32) = false := by simp; omega
        have HN2 : Hid (NoC s fr (k + 1)) := fun i h1 h2 => by
          by_cases e : i = k
          · subst e; exact hc
          · exact HNC.out i h1 (by omega)
        clear hb
        go_wp2
        go_roundw
        case rel => exact ⟨l, A, c, fr, k + 1, by omega, by omega, by omega, rfl, rfl, by go_num, HN2, HC, HR, HB⟩
        case measure => simp [intOf]; omega
    · obtain rfl : k = s.size := by omega
      have HE := Lib.hid (cut_end HNC.out HC.out)
      go_wp2_with (at_builtin; refine append_str _ rfl _ _ rfl rfl (HR.out.alloc _) wr.heap.size (s.extract fr s.size) rfl (by simp) (by omega) (by simp; omega) ?_; intro A3 c3 w3 hr3 hg3; have HR3 := Lib.hid hr3; have HG3 := Lib.hid hg3; clear hr3 hg3)
      have hb3 : Below w.heap.size w w3 := (HB.out.alloc hwz _).grown HG3.out (by simp; omega) HR.out.own
      have hlen : readN s = l.length + 1 := by rw [readN, ← HE.out]; simp
      have HR4 := HR3.out
      rw [HE.out, ← hlen] at HR4
      go_ret
      exact ⟨A3, c3, by rw [hlen]; rfl, HR4, hb3⟩
end Go.Proofs.YthkpikkjgggimaaGreatDoor

namespace Go.Proofs.YthkpikkjgggimaaGreatDoor
open Go.RowKit
set_option linter.unusedVariables false
set_option linter.unusedSimpArgs false

def wWhere : List UInt8 := [119, 104, 101, 114, 101]
def wAt : List UInt8 := [97, 116]
def wSpeed : List UInt8 := [115, 112, 101, 101, 100]
def wDoor : List UInt8 := [100, 111, 111, 114]
def wCalls : List UInt8 := [99, 97, 108, 108, 115]
def wFloors : List UInt8 := [102, 108, 111, 111, 114, 115]
def wQuiet : List UInt8 := [113, 117, 105, 101, 116]
def wTick : List UInt8 := [116, 105, 99, 107]
def wBlock : List UInt8 := [98, 108, 111, 99, 107]
def wRest : List UInt8 := [114, 101, 115, 116]
def rMoving : List UInt8 := [109, 111, 118, 105, 110, 103]
def rYes : List UInt8 := [121, 101, 115]
def rNo : List UInt8 := [110, 111]
def rWhat : List UInt8 := [119, 104, 97, 116]
def rOk : List UInt8 := [111, 107]
/-- What a building answers to a line that only asks. -/
def toldL (b : Bld) (s : ByteArray) : List UInt8 :=
  if isT s wWhere = true then (if b.stand < 0 then rMoving else Lib.itoa b.stand)
  else if isT s wAt = true then Lib.itoa b.pos
  else if isT s wSpeed = true then Lib.itoa b.sp
  else if isT s wDoor = true then Lib.itoa b.gap
  else if isT s wCalls = true then callsT b.nu b.nd b.nc b.up b.dn b.car
  else if isT s wFloors = true then textOf b.f b.n
  else if isT s wQuiet = true then (if b.quiet = true then rYes else rNo)
  else rWhat
theorem stand_range {b : Bld} (h : b.Ok) : -1 ≤ b.stand ∧ b.stand ≤ 8 := by
  have hn := h.sizes
  unfold Bld.stand standF floorAtOf
  split
  · split
    · omega
    · omega
  · omega
set_option maxRecDepth 100000 in
set_option maxHeartbeats 3200000 in
theorem impl_told {w : World} {B : Nat} {v : Bv} {b : Bld} (s : ByteArray) (hok : b.Ok) (hn : b.Small) (hB : B ≤ w.heap.size) (hr : ReadB w B v b) (hh : Here w) :
    Calls Tryz.prog 48 #[bval v b, .string s] w fun e w' => e = .returned (.string ⟨(toldL b s).toArray⟩) ∧ Below w.heap.size w w' := by
  have HX0 := Lib.hid (Bx.new w (bcells v b) 36)
  have HB0 := Lib.hid ((Below.refl w.heap.size w).alloc (Nat.le_refl _) (.cells (bcells v b) 36))
  have HR0 := Lib.hid (hr.alloc hB (.cells (bcells v b) 36))
  have HH0 := Lib.hid (hh.below HB0.out)
  obtain ⟨z1, z2, z3, z4, z5⟩ := hok.sizes
  have hst := stand_range hok
  have hm := motionB_iff.1 hok.motion
  have hd := doorB_iff.1 hok.door
  obtain ⟨⟨p0, p1⟩, p2, p3⟩ := hm
  obtain ⟨⟨d0, d1⟩, -⟩ := hd
  obtain ⟨y0, y1⟩ := hst
  have hnu : b.nu ≤ 8 := by omega
  have hnd : b.nd ≤ 8 := by omega
  have hnc : b.nc ≤ 8 := by omega
  clear z1 z2 z3 z4 hr hok
  unfold bval bcells at *
  have c0 := HX0.out.cells
  cases h0 : isT s wWhere
  rotate_left
  · by_cases hs0 : b.stand < 0
    · have HT : Hid (toldL b s = rMoving) := Lib.hid (by simp [toldL, h0, hs0])
      have g0 : (s.toList == [119, 104, 101, 114, 101]) = true := h0
      clear h0
      go_enter Tryz.func48, Tryz.ntmps48
      go_wp2_with fail
      refine (standingFloor_any b.pos b.sp (by omega) (Nat.le_trans hB (by simp)) HR0.out.h).mono ?_
      rintro e w1 ⟨rfl, hb1⟩
      have HB1 := Lib.hid (HB0.out.trans (hb1.mono HB0.out.size))
      have HH1 := Lib.hid (HH0.out.below hb1)
      have e1 : standF b.f b.n b.pos b.sp = b.stand := rfl
      rw [e1]
      clear hb1 e1
      go_wp2
      go_ret
      exact ⟨by rw [HT.out]; rfl, HB1.out⟩
    · have HT : Hid (toldL b s = Lib.itoa b.stand) := Lib.hid (by simp [toldL, h0, hs0])
      have g0 : (s.toList == [119, 104, 101, 114, 101]) = true := h0
      clear h0
      go_enter Tryz.func48, Tryz.ntmps48
      go_wp2_with fail
      refine (standingFloor_any b.pos b.sp (by omega) (Nat.le_trans hB (by simp)) HR0.out.h).mono ?_
      rintro e w1 ⟨rfl, hb1⟩
      have HB1 := Lib.hid (HB0.out.trans (hb1.mono HB0.out.size))
      have HH1 := Lib.hid (HH0.out.below hb1)
      have e1 : standF b.f b.n b.pos b.sp = b.stand := rfl
      rw [e1]
      clear hb1 e1
      go_wp2_with fail
      refine (Itoa_any b.stand (by omega) (by omega) HH1.out).mono ?_
      rintro e w2 ⟨rfl, hb2⟩
      have HB := Lib.hid (HB1.out.trans (hb2.mono HB1.out.size))
      clear hb2
      go_wp2
      go_ret
      exact ⟨by rw [HT.out]; rfl, HB.out⟩
  cases h1 : isT s wAt
  rotate_left
  · have HT : Hid (toldL b s = Lib.itoa b.pos) := Lib.hid (by simp [toldL, h0, h1])
    have g0 : (s.toList == [119, 104, 101, 114, 101]) = false := h0
    have g1 : (s.toList == [97, 116]) = true := h1
    clear h0 h1
    go_enter Tryz.func48, Tryz.ntmps48
    go_wp2_with fail
    refine (Itoa_any b.pos (by omega) (by omega) HH0.out).mono ?_
    rintro e w2 ⟨rfl, hb2⟩
    have HB := Lib.hid (HB0.out.trans (hb2.mono HB0.out.size))
    clear hb2
    go_wp2
    go_ret
    exact ⟨by rw [HT.out]; rfl, HB.out⟩
  cases h2 : isT s wSpeed
  rotate_left
  · have HT : Hid (toldL b s = Lib.itoa b.sp) := Lib.hid (by simp [toldL, h0, h1, h2])
    have g0 : (s.toList == [119, 104, 101, 114, 101]) = false := h0
    have g1 : (s.toList == [97, 116]) = false := h1
    have g2 : (s.toList == [115, 112, 101, 101, 100]) = true := h2
    clear h0 h1 h2
    go_enter Tryz.func48, Tryz.ntmps48
    go_wp2_with fail
    refine (Itoa_any b.sp (by omega) (by omega) HH0.out).mono ?_
    rintro e w2 ⟨rfl, hb2⟩
    have HB := Lib.hid (HB0.out.trans (hb2.mono HB0.out.size))
    clear hb2
    go_wp2
    go_ret
    exact ⟨by rw [HT.out]; rfl, HB.out⟩
  cases h3 : isT s wDoor
  rotate_left
  · have HT : Hid (toldL b s = Lib.itoa b.gap) := Lib.hid (by simp [toldL, h0, h1, h2, h3])
    have g0 : (s.toList == [119, 104, 101, 114, 101]) = false := h0
    have g1 : (s.toList == [97, 116]) = false := h1
    have g2 : (s.toList == [115, 112, 101, 101, 100]) = false := h2
    have g3 : (s.toList == [100, 111, 111, 114]) = true := h3
    clear h0 h1 h2 h3
    go_enter Tryz.func48, Tryz.ntmps48
    go_wp2_with fail
    refine (Itoa_any b.gap (by omega) (by omega) HH0.out).mono ?_
    rintro e w2 ⟨rfl, hb2⟩
    have HB := Lib.hid (HB0.out.trans (hb2.mono HB0.out.size))
    clear hb2
    go_wp2
    go_ret
    exact ⟨by rw [HT.out]; rfl, HB.out⟩
  cases h4 : isT s wCalls
  rotate_left
  · have HT : Hid (toldL b s = callsT b.nu b.nd b.nc b.up b.dn b.car) := Lib.hid (by simp [toldL, h0, h1, h2, h3, h4])
    have g0 : (s.toList == [119, 104, 101, 114, 101]) = false := h0
    have g1 : (s.toList == [97, 116]) = false := h1
    have g2 : (s.toList == [115, 112, 101, 101, 100]) = false := h2
    have g3 : (s.toList == [100, 111, 111, 114]) = false := h3
    have g4 : (s.toList == [99, 97, 108, 108, 115]) = true := h4
    clear h0 h1 h2 h3 h4
    go_enter Tryz.func48, Tryz.ntmps48
    go_wp2_with fail
    refine (impl_CallsText (by omega) (by omega) (by omega) (Nat.le_trans hB (by simp)) HR0.out.u HR0.out.d HR0.out.c).mono ?_
    rintro e w2 ⟨rfl, hb2⟩
    have HB := Lib.hid (HB0.out.trans (hb2.mono HB0.out.size))
    clear hb2
    go_wp2
    go_ret
    exact ⟨by rw [HT.out]; rfl, HB.out⟩
  cases h5 : isT s wFloors
  rotate_left
  · have HT : Hid (toldL b s = textOf b.f b.n) := Lib.hid (by simp [toldL, h0, h1, h2, h3, h4, h5])
    have g0 : (s.toList == [119, 104, 101, 114, 101]) = false := h0
    have g1 : (s.toList == [97, 116]) = false := h1
    have g2 : (s.toList == [115, 112, 101, 101, 100]) = false := h2
    have g3 : (s.toList == [100, 111, 111, 114]) = false := h3
    have g4 : (s.toList == [99, 97, 108, 108, 115]) = false := h4
    have g5 : (s.toList == [102, 108, 111, 111, 114, 115]) = true := h5
    clear h0 h1 h2 h3 h4 h5
    go_enter Tryz.func48, Tryz.ntmps48
    go_wp2_with fail
    refine (impl_HeightsText (by omega) HR0.out.h).mono ?_
    rintro e w2 ⟨rfl, m2, rfl⟩
    have HB := Lib.hid (below_drewN HB0.out m2)
    go_wp2
    go_ret
    exact ⟨by rw [HT.out]; rfl, HB.out⟩
  cases h6 : isT s wQuiet
  rotate_left
  · cases hq : b.quiet
    rotate_left
    · have HT : Hid (toldL b s = rYes) := Lib.hid (by simp [toldL, h0, h1, h2, h3, h4, h5, h6, hq])
      have g0 : (s.toList == [119, 104, 101, 114, 101]) = false := h0
      have g1 : (s.toList == [97, 116]) = false := h1
      have g2 : (s.toList == [115, 112, 101, 101, 100]) = false := h2
      have g3 : (s.toList == [100, 111, 111, 114]) = false := h3
      have g4 : (s.toList == [99, 97, 108, 108, 115]) = false := h4
      have g5 : (s.toList == [102, 108, 111, 111, 114, 115]) = false := h5
      have g6 : (s.toList == [113, 117, 105, 101, 116]) = true := h6
      clear h0 h1 h2 h3 h4 h5 h6
      have HQ := Lib.hid hq
      clear hq
      go_enter Tryz.func48, Tryz.ntmps48
      go_wp2_with fail
      refine (impl_BuildQuiet hn (Nat.le_trans hB (by simp)) HR0.out).mono ?_
      rintro e w2 ⟨rfl, hb2⟩
      rw [HQ.out]
      have HB := Lib.hid (HB0.out.trans (hb2.mono HB0.out.size))
      clear hb2
      go_wp2
      go_ret
      exact ⟨by rw [HT.out]; rfl, HB.out⟩
    · have HT : Hid (toldL b s = rNo) := Lib.hid (by simp [toldL, h0, h1, h2, h3, h4, h5, h6, hq])
      have g0 : (s.toList == [119, 104, 101, 114, 101]) = false := h0
      have g1 : (s.toList == [97, 116]) = false := h1
      have g2 : (s.toList == [115, 112, 101, 101, 100]) = false := h2
      have g3 : (s.toList == [100, 111, 111, 114]) = false := h3
      have g4 : (s.toList == [99, 97, 108, 108, 115]) = false := h4
      have g5 : (s.toList == [102, 108, 111, 111, 114, 115]) = false := h5
      have g6 : (s.toList == [113, 117, 105, 101, 116]) = true := h6
      clear h0 h1 h2 h3 h4 h5 h6
      have HQ := Lib.hid hq
      clear hq
      go_enter Tryz.func48, Tryz.ntmps48
      go_wp2_with fail
      refine (impl_BuildQuiet hn (Nat.le_trans hB (by simp)) HR0.out).mono ?_
      rintro e w2 ⟨rfl, hb2⟩
      rw [HQ.out]
      have HB := Lib.hid (HB0.out.trans (hb2.mono HB0.out.size))
      clear hb2
      go_wp2
      go_ret
      exact ⟨by rw [HT.out]; rfl, HB.out⟩
  · have HT : Hid (toldL b s = rWhat) := Lib.hid (by simp [toldL, h0, h1, h2, h3, h4, h5, h6])
    have g0 : (s.toList == [119, 104, 101, 114, 101]) = false := h0
    have g1 : (s.toList == [97, 116]) = false := h1
    have g2 : (s.toList == [115, 112, 101, 101, 100]) = false := h2
    have g3 : (s.toList == [100, 111, 111, 114]) = false := h3
    have g4 : (s.toList == [99, 97, 108, 108, 115]) = false := h4
    have g5 : (s.toList == [102, 108, 111, 111, 114, 115]) = false := h5
    have g6 : (s.toList == [113, 117, 105, 101, 116]) = false := h6
    clear h0 h1 h2 h3 h4 h5 h6
    go_enter Tryz.func48, Tryz.ntmps48
    go_wp2
    go_ret
    exact ⟨by rw [HT.out]; rfl, HB0.out⟩
set_option maxRecDepth 100000 in
set_option maxHeartbeats 3200000 in
theorem spec_told {w : World} {B : Nat} {v : Bv} {b : Bld} (s : ByteArray) (hok : b.Ok) (hn : b.Small) (hB : B ≤ w.heap.size) (hr : ReadB w B v b) :
    Calls Tryz.prog 62 #[bval v b, .string s] w fun e w' => e = .returned (.string ⟨(toldL b s).toArray⟩) ∧ Below w.heap.size w w' := by
  have HX0 := Lib.hid (Bx.new w (bcells v b) 36)
  have HB0 := Lib.hid ((Below.refl w.heap.size w).alloc (Nat.le_refl _) (.cells (bcells v b) 36))
  have HR0 := Lib.hid (hr.alloc hB (.cells (bcells v b) 36))
  obtain ⟨z1, z2, z3, z4, z5⟩ := hok.sizes
  have hst := stand_range hok
  have hm := motionB_iff.1 hok.motion
  have hd := doorB_iff.1 hok.door
  obtain ⟨⟨p0, p1⟩, p2, p3⟩ := hm
  obtain ⟨⟨d0, d1⟩, -⟩ := hd
  obtain ⟨y0, y1⟩ := hst
  have hnu : b.nu ≤ 8 := by omega
  have hnd : b.nd ≤ 8 := by omega
  have hnc : b.nc ≤ 8 := by omega
  clear z1 z2 z3 z4 hr hok
  unfold bval bcells at *
  have c0 := HX0.out.cells
  cases h0 : isT s wWhere
  rotate_left
  · by_cases hs0 : b.stand < 0
    · have HT : Hid (toldL b s = rMoving) := Lib.hid (by simp [toldL, h0, hs0])
      have g0 : (s.toList == [119, 104, 101, 114, 101]) = true := h0
      clear h0
      go_enter Tryz.func62, Tryz.ntmps62
      go_wp2_with fail
      refine (l27Here_any hn (Nat.le_trans hB (by simp)) HR0.out).mono ?_
      rintro e w1 ⟨rfl, hb1⟩
      have HX1 := Lib.hid (HX0.out.below hb1 HX0.out.lt)
      have HB1 := Lib.hid (HB0.out.trans (hb1.mono HB0.out.size))
      have HR1 := Lib.hid (HR0.out.below (hb1.mono (by simp; omega)))
      have hs1 : w.heap.size + 1 ≤ w1.heap.size := by have := hb1.size; simpa using this
      clear hb1 HX0 HB0 HR0 c0
      have c0 := HX1.out.cells
      go_wp2
      go_ret
      exact ⟨by rw [HT.out]; rfl, HB1.out⟩
    · have HT : Hid (toldL b s = Lib.itoa b.stand) := Lib.hid (by simp [toldL, h0, hs0])
      have g0 : (s.toList == [119, 104, 101, 114, 101]) = true := h0
      clear h0
      go_enter Tryz.func62, Tryz.ntmps62
      go_wp2_with fail
      refine (l27Here_any hn (Nat.le_trans hB (by simp)) HR0.out).mono ?_
      rintro e w1 ⟨rfl, hb1⟩
      have HX1 := Lib.hid (HX0.out.below hb1 HX0.out.lt)
      have HB1 := Lib.hid (HB0.out.trans (hb1.mono HB0.out.size))
      have HR1 := Lib.hid (HR0.out.below (hb1.mono (by simp; omega)))
      have hs1 : w.heap.size + 1 ≤ w1.heap.size := by have := hb1.size; simpa using this
      clear hb1 HX0 HB0 HR0 c0
      have c0 := HX1.out.cells
      go_wp2_with fail
      refine (l1Number_int b.stand (by omega) (by omega) _).mono ?_
      rintro e w2 ⟨rfl, hb2⟩
      have HB := Lib.hid (HB1.out.trans (hb2.mono HB1.out.size))
      clear hb2
      go_wp2
      go_ret
      exact ⟨by rw [HT.out]; rfl, HB.out⟩
  cases h1 : isT s wAt
  rotate_left
  · have HT : Hid (toldL b s = Lib.itoa b.pos) := Lib.hid (by simp [toldL, h0, h1])
    have g0 : (s.toList == [119, 104, 101, 114, 101]) = false := h0
    have g1 : (s.toList == [97, 116]) = true := h1
    clear h0 h1
    go_enter Tryz.func62, Tryz.ntmps62
    go_wp2_with fail
    refine (l27Here_any hn (Nat.le_trans hB (by simp)) HR0.out).mono ?_
    rintro e w1 ⟨rfl, hb1⟩
    have HX1 := Lib.hid (HX0.out.below hb1 HX0.out.lt)
    have HB1 := Lib.hid (HB0.out.trans (hb1.mono HB0.out.size))
    have HR1 := Lib.hid (HR0.out.below (hb1.mono (by simp; omega)))
    have hs1 : w.heap.size + 1 ≤ w1.heap.size := by have := hb1.size; simpa using this
    clear hb1 HX0 HB0 HR0 c0
    have c0 := HX1.out.cells
    go_wp2_with fail
    refine (l1Number_int b.pos (by omega) (by omega) _).mono ?_
    rintro e w2 ⟨rfl, hb2⟩
    have HB := Lib.hid (HB1.out.trans (hb2.mono HB1.out.size))
    clear hb2
    go_wp2
    go_ret
    exact ⟨by rw [HT.out]; rfl, HB.out⟩
  cases h2 : isT s wSpeed
  rotate_left
  · have HT : Hid (toldL b s = Lib.itoa b.sp) := Lib.hid (by simp [toldL, h0, h1, h2])
    have g0 : (s.toList == [119, 104, 101, 114, 101]) = false := h0
    have g1 : (s.toList == [97, 116]) = false := h1
    have g2 : (s.toList == [115, 112, 101, 101, 100]) = true := h2
    clear h0 h1 h2
    go_enter Tryz.func62, Tryz.ntmps62
    go_wp2_with fail
    refine (l27Here_any hn (Nat.le_trans hB (by simp)) HR0.out).mono ?_
    rintro e w1 ⟨rfl, hb1⟩
    have HX1 := Lib.hid (HX0.out.below hb1 HX0.out.lt)
    have HB1 := Lib.hid (HB0.out.trans (hb1.mono HB0.out.size))
    have HR1 := Lib.hid (HR0.out.below (hb1.mono (by simp; omega)))
    have hs1 : w.heap.size + 1 ≤ w1.heap.size := by have := hb1.size; simpa using this
    clear hb1 HX0 HB0 HR0 c0
    have c0 := HX1.out.cells
    go_wp2_with fail
    refine (l1Number_int b.sp (by omega) (by omega) _).mono ?_
    rintro e w2 ⟨rfl, hb2⟩
    have HB := Lib.hid (HB1.out.trans (hb2.mono HB1.out.size))
    clear hb2
    go_wp2
    go_ret
    exact ⟨by rw [HT.out]; rfl, HB.out⟩
  cases h3 : isT s wDoor
  rotate_left
  · have HT : Hid (toldL b s = Lib.itoa b.gap) := Lib.hid (by simp [toldL, h0, h1, h2, h3])
    have g0 : (s.toList == [119, 104, 101, 114, 101]) = false := h0
    have g1 : (s.toList == [97, 116]) = false := h1
    have g2 : (s.toList == [115, 112, 101, 101, 100]) = false := h2
    have g3 : (s.toList == [100, 111, 111, 114]) = true := h3
    clear h0 h1 h2 h3
    go_enter Tryz.func62, Tryz.ntmps62
    go_wp2_with fail
    refine (l27Here_any hn (Nat.le_trans hB (by simp)) HR0.out).mono ?_
    rintro e w1 ⟨rfl, hb1⟩
    have HX1 := Lib.hid (HX0.out.below hb1 HX0.out.lt)
    have HB1 := Lib.hid (HB0.out.trans (hb1.mono HB0.out.size))
    have HR1 := Lib.hid (HR0.out.below (hb1.mono (by simp; omega)))
    have hs1 : w.heap.size + 1 ≤ w1.heap.size := by have := hb1.size; simpa using this
    clear hb1 HX0 HB0 HR0 c0
    have c0 := HX1.out.cells
    go_wp2_with fail
    refine (l1Number_int b.gap (by omega) (by omega) _).mono ?_
    rintro e w2 ⟨rfl, hb2⟩
    have HB := Lib.hid (HB1.out.trans (hb2.mono HB1.out.size))
    clear hb2
    go_wp2
    go_ret
    exact ⟨by rw [HT.out]; rfl, HB.out⟩
  cases h4 : isT s wCalls
  rotate_left
  · have HT : Hid (toldL b s = callsT b.nu b.nd b.nc b.up b.dn b.car) := Lib.hid (by simp [toldL, h0, h1, h2, h3, h4])
    have g0 : (s.toList == [119, 104, 101, 114, 101]) = false := h0
    have g1 : (s.toList == [97, 116]) = false := h1
    have g2 : (s.toList == [115, 112, 101, 101, 100]) = false := h2
    have g3 : (s.toList == [100, 111, 111, 114]) = false := h3
    have g4 : (s.toList == [99, 97, 108, 108, 115]) = true := h4
    clear h0 h1 h2 h3 h4
    go_enter Tryz.func62, Tryz.ntmps62
    go_wp2_with fail
    refine (l27Here_any hn (Nat.le_trans hB (by simp)) HR0.out).mono ?_
    rintro e w1 ⟨rfl, hb1⟩
    have HX1 := Lib.hid (HX0.out.below hb1 HX0.out.lt)
    have HB1 := Lib.hid (HB0.out.trans (hb1.mono HB0.out.size))
    have HR1 := Lib.hid (HR0.out.below (hb1.mono (by simp; omega)))
    have hs1 : w.heap.size + 1 ≤ w1.heap.size := by have := hb1.size; simpa using this
    clear hb1 HX0 HB0 HR0 c0
    have c0 := HX1.out.cells
    go_wp2_with fail
    refine (spec_CallsText (by omega) (by omega) (by omega) (Nat.le_trans hB (by omega)) HR1.out.u HR1.out.d HR1.out.c).mono ?_
    rintro e w2 ⟨rfl, hb2⟩
    have HB := Lib.hid (HB1.out.trans (hb2.mono HB1.out.size))
    clear hb2
    go_wp2
    go_ret
    exact ⟨by rw [HT.out]; rfl, HB.out⟩
  cases h5 : isT s wFloors
  rotate_left
  · have HT : Hid (toldL b s = textOf b.f b.n) := Lib.hid (by simp [toldL, h0, h1, h2, h3, h4, h5])
    have g0 : (s.toList == [119, 104, 101, 114, 101]) = false := h0
    have g1 : (s.toList == [97, 116]) = false := h1
    have g2 : (s.toList == [115, 112, 101, 101, 100]) = false := h2
    have g3 : (s.toList == [100, 111, 111, 114]) = false := h3
    have g4 : (s.toList == [99, 97, 108, 108, 115]) = false := h4
    have g5 : (s.toList == [102, 108, 111, 111, 114, 115]) = true := h5
    clear h0 h1 h2 h3 h4 h5
    go_enter Tryz.func62, Tryz.ntmps62
    go_wp2_with fail
    refine (l27Here_any hn (Nat.le_trans hB (by simp)) HR0.out).mono ?_
    rintro e w1 ⟨rfl, hb1⟩
    have HX1 := Lib.hid (HX0.out.below hb1 HX0.out.lt)
    have HB1 := Lib.hid (HB0.out.trans (hb1.mono HB0.out.size))
    have HR1 := Lib.hid (HR0.out.below (hb1.mono (by simp; omega)))
    have hs1 : w.heap.size + 1 ≤ w1.heap.size := by have := hb1.size; simpa using this
    clear hb1 HX0 HB0 HR0 c0
    have c0 := HX1.out.cells
    go_wp2_with fail
    refine (spec_HeightsText (by omega) (Nat.le_trans hB (by omega)) HR1.out.h).mono ?_
    rintro e w2 ⟨rfl, hb2⟩
    have HB := Lib.hid (HB1.out.trans (hb2.mono HB1.out.size))
    clear hb2
    go_wp2
    go_ret
    exact ⟨by rw [HT.out]; rfl, HB.out⟩
  cases h6 : isT s wQuiet
  rotate_left
  · cases hq : b.quiet
    rotate_left
    · have HT : Hid (toldL b s = rYes) := Lib.hid (by simp [toldL, h0, h1, h2, h3, h4, h5, h6, hq])
      have g0 : (s.toList == [119, 104, 101, 114, 101]) = false := h0
      have g1 : (s.toList == [97, 116]) = false := h1
      have g2 : (s.toList == [115, 112, 101, 101, 100]) = false := h2
      have g3 : (s.toList == [100, 111, 111, 114]) = false := h3
      have g4 : (s.toList == [99, 97, 108, 108, 115]) = false := h4
      have g5 : (s.toList == [102, 108, 111, 111, 114, 115]) = false := h5
      have g6 : (s.toList == [113, 117, 105, 101, 116]) = true := h6
      clear h0 h1 h2 h3 h4 h5 h6
      have HQ := Lib.hid hq
      clear hq
      go_enter Tryz.func62, Tryz.ntmps62
      go_wp2_with fail
      refine (l27Here_any hn (Nat.le_trans hB (by simp)) HR0.out).mono ?_
      rintro e w1 ⟨rfl, hb1⟩
      have HX1 := Lib.hid (HX0.out.below hb1 HX0.out.lt)
      have HB1 := Lib.hid (HB0.out.trans (hb1.mono HB0.out.size))
      have HR1 := Lib.hid (HR0.out.below (hb1.mono (by simp; omega)))
      have hs1 : w.heap.size + 1 ≤ w1.heap.size := by have := hb1.size; simpa using this
      clear hb1 HX0 HB0 HR0 c0
      have c0 := HX1.out.cells
      go_wp2_with fail
      refine (spec_BuildQuiet hn (Nat.le_trans hB (by omega)) HR1.out).mono ?_
      rintro e w2 ⟨rfl, hb2⟩
      rw [HQ.out]
      have HB := Lib.hid (HB1.out.trans (hb2.mono HB1.out.size))
      clear hb2
      go_wp2
      go_ret
      exact ⟨by rw [HT.out]; rfl, HB.out⟩
    · have HT : Hid (toldL b s = rNo) := Lib.hid (by simp [toldL, h0, h1, h2, h3, h4, h5, h6, hq])
      have g0 : (s.toList == [119, 104, 101, 114, 101]) = false := h0
      have g1 : (s.toList == [97, 116]) = false := h1
      have g2 : (s.toList == [115, 112, 101, 101, 100]) = false := h2
      have g3 : (s.toList == [100, 111, 111, 114]) = false := h3
      have g4 : (s.toList == [99, 97, 108, 108, 115]) = false := h4
      have g5 : (s.toList == [102, 108, 111, 111, 114, 115]) = false := h5
      have g6 : (s.toList == [113, 117, 105, 101, 116]) = true := h6
      clear h0 h1 h2 h3 h4 h5 h6
      have HQ := Lib.hid hq
      clear hq
      go_enter Tryz.func62, Tryz.ntmps62
      go_wp2_with fail
      refine (l27Here_any hn (Nat.le_trans hB (by simp)) HR0.out).mono ?_
      rintro e w1 ⟨rfl, hb1⟩
      have HX1 := Lib.hid (HX0.out.below hb1 HX0.out.lt)
      have HB1 := Lib.hid (HB0.out.trans (hb1.mono HB0.out.size))
      have HR1 := Lib.hid (HR0.out.below (hb1.mono (by simp; omega)))
      have hs1 : w.heap.size + 1 ≤ w1.heap.size := by have := hb1.size; simpa using this
      clear hb1 HX0 HB0 HR0 c0
      have c0 := HX1.out.cells
      go_wp2_with fail
      refine (spec_BuildQuiet hn (Nat.le_trans hB (by omega)) HR1.out).mono ?_
      rintro e w2 ⟨rfl, hb2⟩
      rw [HQ.out]
      have HB := Lib.hid (HB1.out.trans (hb2.mono HB1.out.size))
      clear hb2
      go_wp2
      go_ret
      exact ⟨by rw [HT.out]; rfl, HB.out⟩
  · have HT : Hid (toldL b s = rWhat) := Lib.hid (by simp [toldL, h0, h1, h2, h3, h4, h5, h6])
    have g0 : (s.toList == [119, 104, 101, 114, 101]) = false := h0
    have g1 : (s.toList == [97, 116]) = false := h1
    have g2 : (s.toList == [115, 112, 101, 101, 100]) = false := h2
    have g3 : (s.toList == [100, 111, 111, 114]) = false := h3
    have g4 : (s.toList == [99, 97, 108, 108, 115]) = false := h4
    have g5 : (s.toList == [102, 108, 111, 111, 114, 115]) = false := h5
    have g6 : (s.toList == [113, 117, 105, 101, 116]) = false := h6
    clear h0 h1 h2 h3 h4 h5 h6
    go_enter Tryz.func62, Tryz.ntmps62
    go_wp2_with fail
    refine (l27Here_any hn (Nat.le_trans hB (by simp)) HR0.out).mono ?_
    rintro e w1 ⟨rfl, hb1⟩
    have HX1 := Lib.hid (HX0.out.below hb1 HX0.out.lt)
    have HB1 := Lib.hid (HB0.out.trans (hb1.mono HB0.out.size))
    have HR1 := Lib.hid (HR0.out.below (hb1.mono (by simp; omega)))
    have hs1 : w.heap.size + 1 ≤ w1.heap.size := by have := hb1.size; simpa using this
    clear hb1 HX0 HB0 HR0 c0
    have c0 := HX1.out.cells
    go_wp2
    go_ret
    exact ⟨by rw [HT.out]; rfl, HB1.out⟩
end Go.Proofs.YthkpikkjgggimaaGreatDoor

namespace Go.Proofs.YthkpikkjgggimaaGreatDoor
open Go.RowKit
set_option linter.unusedVariables false
set_option linter.unusedSimpArgs false

/-- What stands ahead of the first space of a text, what stands behind it, and whether there is one. -/
def cutW (s : ByteArray) : ByteArray := ⟨(Lib.cut s.data.toList [32]).1.toArray⟩
def cutR (s : ByteArray) : ByteArray := ⟨(Lib.cut s.data.toList [32]).2.1.toArray⟩
def cutOk (s : ByteArray) : Bool := (Lib.cut s.data.toList [32]).2.2
/-- A line is a call. -/
def callLine (s : ByteArray) : Bool := cutOk s && (decide (0 ≤ kindOf (cutW s)) && wordOk (cutR s))

theorem cut_cases (l : List UInt8) : ((∀ b ∈ l, b ≠ 32) ∧ Lib.cut l [32] = (l, [], false)) ∨ ∃ p r, l = p ++ 32 :: r ∧ (∀ b ∈ p, b ≠ 32) ∧ Lib.cut l [32] = (p, r, true) := by
  by_cases hm : (32 : UInt8) ∈ l
  · right
    have h1 : Lib.indexByte l 32 ≠ -1 := fun e => by
      obtain ⟨i, hi, he⟩ := List.getElem_of_mem hm
      exact Lib.indexByte_none e i (by rw [List.getElem?_eq_getElem hi, he])
    have h2 := Lib.indexByte_ge l 32
    obtain ⟨o, ho⟩ : ∃ o : Nat, Lib.indexByte l 32 = o := ⟨(Lib.indexByte l 32).toNat, by omega⟩
    obtain ⟨h3, h4⟩ := Lib.indexByte_some ho
    have hlt : o < l.length := (List.getElem?_eq_some_iff.1 h3).1
    have hno : ∀ b ∈ l.take o, b ≠ 32 := fun b hb e => by
      subst e
      obtain ⟨i, hi, he⟩ := List.getElem_of_mem hb
      rw [List.length_take] at hi
      rw [List.getElem_take] at he
      exact h4 i (by omega) (by rw [List.getElem?_eq_getElem (by omega), he])
    have hsp : l = l.take o ++ 32 :: l.drop (o + 1) := by
      have := List.getElem?_eq_some_iff.1 h3
      conv => lhs; rw [← List.take_append_drop o l, List.drop_eq_getElem_cons hlt, this.2]
    refine ⟨l.take o, l.drop (o + 1), hsp, hno, ?_⟩
    unfold Lib.cut
    rw [Lib.index_one, ho, if_pos (by omega)]
    simp
  · left
    have h1 : Lib.indexByte l 32 = -1 := by
      have h2 := Lib.indexByte_ge l 32
      rcases (by omega : Lib.indexByte l 32 = -1 ∨ 0 ≤ Lib.indexByte l 32) with h | h
      · exact h
      · obtain ⟨o, ho⟩ : ∃ o : Nat, Lib.indexByte l 32 = o := ⟨(Lib.indexByte l 32).toNat, by omega⟩
        exact absurd (List.mem_of_getElem? (Lib.indexByte_some ho).1) hm
    refine ⟨fun b hb e => hm (e ▸ hb), ?_⟩
    unfold Lib.cut
    rw [Lib.index_one, h1, if_neg (by omega)]

theorem wordOk_noS {s : ByteArray} (h : wordOk s = true) : ∀ b ∈ s.data.toList, b ≠ 32 := by
  intro b hb e
  subst e
  obtain ⟨i, hi, he⟩ := List.getElem_of_mem hb
  have hi' : i < s.size := by simpa using hi
  have hl := byteAt_list s i hi'
  rw [List.getElem?_eq_getElem hi, he] at hl
  simp only [wordOk, Bool.and_eq_true] at h
  have hd := digP_iff.1 (allB_iff.1 h.2 i hi')
  have h5 : (32 : UInt8) = UInt8.ofNat (byteAt s i) := by simpa using hl
  have h6 := congrArg UInt8.toNat h5
  rw [UInt8.toNat_ofNat'] at h6
  simp at h6
  omega

/-- The reference's cutting against the program's. -/
theorem words_cut (s : ByteArray) : wordAt s 0 = cutW s ∧ 1 ≤ readN s ∧ callLine s = (decide (0 ≤ kindOf (wordAt s 0)) && decide (readN s = 2) && wordOk (wordAt s 1)) ∧ (readN s = 2 → cutR s = wordAt s 1) := by
  rcases cut_cases s.data.toList with ⟨h1, h2⟩ | ⟨p, r, h1, h2, h3⟩
  · have hw : wordsB s = [s] := by
      rw [wordsB, cutL_none _ h1]
      cases s; simp
    have hn : readN s = 1 := by rw [readN, hw]; rfl
    refine ⟨?_, by omega, ?_, fun h => by omega⟩
    · unfold wordAt cutW
      rw [hw, h2]
      cases s; simp
    · rw [hn]
      simp [callLine, cutOk, h2]
  · have hw : wordsB s = ⟨p.toArray⟩ :: (cutL r).map fun x => ⟨x.toArray⟩ := by
      rw [wordsB, h1, cutL_at p r h2]; rfl
    have hc : cutW s = ⟨p.toArray⟩ := by unfold cutW; rw [h3]
    have hr : cutR s = ⟨r.toArray⟩ := by unfold cutR; rw [h3]
    have h0 : wordAt s 0 = cutW s := by unfold wordAt; rw [hw, hc]; rfl
    have hok : cutOk s = true := by unfold cutOk; rw [h3]
    by_cases hm : ∀ b ∈ r, b ≠ 32
    · have hn : readN s = 2 := by rw [readN, hw, cutL_none _ hm]; rfl
      have e1 : wordAt s 1 = cutR s := by unfold wordAt; rw [hw, hr, cutL_none _ hm]; rfl
      refine ⟨h0, by omega, ?_, fun _ => e1.symm⟩
      rw [callLine, hok, h0, hn, e1]
      simp
    · have hn : 2 < readN s := by
        rcases cut_cases r with ⟨g1, _⟩ | ⟨p', r', g1, g2, _⟩
        · exact absurd g1 hm
        · rw [readN, hw, g1, cutL_at _ _ g2]
          have := cutL_ne r'
          cases hx : cutL r' with
          | nil => exact absurd hx this
          | cons a b => simp
      have hno : wordOk (cutR s) = false := by
        rw [← Bool.not_eq_true]
        intro h
        have := wordOk_noS h
        rw [hr] at this
        exact hm (by simpa using this)
      refine ⟨h0, by omega, ?_, fun h => by omega⟩
      rw [callLine, hno]
      have : ¬ readN s = 2 := by omega
      simp [this]

theorem isT_cut {s : ByteArray} {l : List UInt8} (h : isT s l = true) (hl : (Lib.cut l [32]).2.2 = false) : cutOk s = false := by
  rw [isT_iff] at h
  subst h
  exact hl
/-- A line with a space asks nothing. -/
theorem told_what {b : Bld} {s : ByteArray} (h : cutOk s = true) : toldL b s = rWhat := by
  have key : ∀ l, (Lib.cut l [32]).2.2 = false → isT s l = false := fun l hl => by
    rw [← Bool.not_eq_true]
    intro e
    rw [isT_cut e hl] at h
    cases h
  simp [toldL, key wWhere (by decide), key wAt (by decide), key wSpeed (by decide), key wDoor (by decide), key wCalls (by decide), key wFloors (by decide), key wQuiet (by decide)]

/-- A valid building after a line. -/
def Bld.line (b : Bld) (s : ByteArray) : Bld :=
  if isT s wTick = true then b.tick false else if isT s wBlock = true then b.tick true else if isT s wRest = true then b.after b.rest
  else if callLine s = true then b.ask (kindOf (cutW s)) (wordN (cutR s)) else b
/-- What a valid building answers. -/
def Bld.reply (b : Bld) (s : ByteArray) : List UInt8 :=
  if isT s wTick = true then rOk else if isT s wBlock = true then rOk else if isT s wRest = true then Lib.itoa (b.rest : Int)
  else if callLine s = true then (if b.askOk (kindOf (cutW s)) (wordN (cutR s)) = true then rOk else rNo) else toldL b s
def Bld.lined (b : Bld) (s : ByteArray) : Bld := if b.valid = true then b.line s else Bld.none
def Bld.says (b : Bld) (s : ByteArray) : List UInt8 := if b.valid = true then b.reply s else []
theorem lined_no {b : Bld} {s : ByteArray} (h : b.valid = false) : b.lined s = Bld.none ∧ b.says s = [] := by simp [Bld.lined, Bld.says, h]
theorem lined_yes {b : Bld} {s : ByteArray} (h : b.valid = true) : b.lined s = b.line s ∧ b.says s = b.reply s := by simp [Bld.lined, Bld.says, h]
theorem ask_not {b : Bld} {k f : Int} (h : b.askOk k f = false) : b.ask k f = b := by
  unfold Bld.askOk at h
  cases b
  simp [Bld.ask, askUp, askDn, askCar] at h ⊢
  simp [h]
theorem line_ok {b : Bld} (h : b.Ok) (s : ByteArray) : (b.line s).Ok := by
  unfold Bld.line
  split
  · exact tick_ok h false
  · split
    · exact tick_ok h true
    · split
      · exact after_ok h _
      · split
        · exact Bld.ask_valid h _ _
        · exact h
end Go.Proofs.YthkpikkjgggimaaGreatDoor
