/-
  The contracts of HeightsText, the program's and the reference's. No claim stands here.
-/
import Derived.Test.YthkpikkjgggimaaGreatDoorNum
import Derived.Test.YthkpikkjgggimaaGreatDoorShelf
namespace Go.Proofs.YthkpikkjgggimaaGreatDoor
open Go.RowKit
set_option linter.unusedVariables false
set_option linter.unusedSimpArgs false

/-- The text of the first k heights. -/
def hTo (f : Nat → Int) : Nat → List UInt8
  | 0 => []
  | k + 1 => hTo f k ++ (if k = 0 then [] else [44]) ++ Lib.decDigits (f k).toNat
def textOf (f : Nat → Int) (n : Nat) : List UInt8 := if floorsB f n = true then hTo f n else []
theorem textOf_yes {f : Nat → Int} {n : Nat} (h : floorsB f n = true) : textOf f n = hTo f n := if_pos h
theorem textOf_no {f : Nat → Int} {n : Nat} (h : floorsB f n = false) : textOf f n = [] := by simp [textOf, h]
theorem decDigits_100 {i : Nat} (h : i < 100) : (Lib.decDigits i).length ≤ 2 := by
  by_cases h1 : i < 10
  · rw [Lib.decDigits_one h1]; simp
  · rw [decDigits_more h1, Lib.decDigits_one (by omega)]; simp
theorem floorsB_in {f : Nat → Int} {n k : Nat} (h : floorsB f n = true) (hk : k < n) : 0 ≤ f k ∧ f k ≤ 60 := by
  rw [floorsB_spec] at h
  simp only [Bool.and_eq_true] at h
  have := allB_iff.1 (by first | exact h.1.1.1) k hk
  simp only [floorQ, Bool.and_eq_true] at this
  exact inB_iff.1 this.1
theorem hTo_len {f : Nat → Int} {n : Nat} : ∀ k, (∀ i, i < k → 0 ≤ f i ∧ f i ≤ 60) → (hTo f k).length ≤ 3 * k
  | 0, _ => Nat.le_refl _
  | k + 1, h => by
    have h1 := hTo_len (n := n) k (fun i hi => h i (by omega))
    have h2 := decDigits_100 (i := (f k).toNat) (by have := h k (by omega); omega)
    simp only [hTo, List.length_append]
    split <;> simp <;> omega

theorem add_texts (W : World) (a b : List UInt8) (h : a.length + b.length ≤ 9223372036854775807) :
    (Op.stringOp .add ⟨a.toArray⟩ ⟨b.toArray⟩).run Tryz.prog W = .ok (.string ⟨(a ++ b).toArray⟩) W := by
  rw [run_string_add_sum W _ _ (by simpa [ByteArray.size] using h), ByteArray.mk_append_mk]

set_option maxRecDepth 100000 in
set_option maxHeartbeats 800000 in
theorem impl_HeightsText {w : World} {B : Nat} {A : Option Addr} {n c : Nat} {f : Nat → Int} (hn : n ≤ 9223372036854775806) (hs : Ints w B A n f) :
    Calls Tryz.prog 101 #[.slice A n c] w fun e w' => e = .returned (.string ⟨(textOf f n).toArray⟩) ∧ Drew w w' := by
  cases hv : floorsB f n
  · have HN := Lib.hid (textOf_no hv)
    go_enter Tryz.func101, Tryz.ntmps101
    go_wp2_with (go_at_call 92; refine (impl_FloorsValid hn hs).mono ?_; rintro e w' ⟨rfl, m, rfl⟩)
    go_ret
    exact ⟨by rw [HN.out]; rfl, _, rfl⟩
  · have HN := Lib.hid (textOf_yes hv)
    have HV := Lib.hid hv
    have HI := Lib.hid (fun k (hk : k < n) => floorsB_in hv hk)
    go_enter Tryz.func101, Tryz.ntmps101
    go_wp2_with (go_at_call 92; refine (impl_FloorsValid hn hs).mono ?_; rintro e w' ⟨rfl, m, rfl⟩)
    go_loopw [3, 11] (fun s3 s11 wr => ∃ k : Nat, k ≤ n ∧ s3 = .string ⟨(hTo f k).toArray⟩ ∧ s11 = .int .i64 k ∧ Drew w wr) (fun _ s11 _ => n - (intOf s11).toNat)
    case atStart => exact ⟨0, Nat.zero_le _, rfl, rfl, _, rfl⟩
    case round =>
      obtain ⟨k, hk, rfl, rfl, m, rfl⟩ := hrel
      have hlen := hTo_len (n := n) k (fun i hi => HI.out i (by omega))
      have hn8 := (floorsB_iff.1 HV.out).2.1
      by_cases hlt : k < n
      · obtain ⟨b, off, rfl, _, hc⟩ := hs (by omega)
        have c0 := hc k hlt
        obtain ⟨h0, h1⟩ := HI.out k hlt
        clear hc hs hv
        have hst : hTo f (k + 1) = hTo f k ++ (if k = 0 then [] else [44]) ++ Lib.decDigits (f k).toNat := rfl
        have hd := decDigits_100 (i := (f k).toNat) (by omega)
        obtain ⟨x, hx⟩ : ∃ x : Nat, f k = x := ⟨(f k).toNat, by omega⟩
        rw [hx] at c0 hst hd h0 h1
        rw [Int.toNat_natCast] at hst hd
        have HIT := Lib.hid (fun W => Tryz.strconv_Itoa_small (i := x) (by omega) W)
        have hd2 := Lib.decDigits x
        by_cases hk0 : k = 0
        · rw [if_pos hk0, List.append_nil] at hst
          have hA := fun W => add_texts W (hTo f k) (Lib.decDigits x) (by omega)
          rw [← hst] at hA
          have hk1 : ¬ (0 : Int) < (k : Int) := by omega
          have HE : Hid (ByteArray.mk (hTo f (k + 1)).toArray = ByteArray.mk (hTo f (k + 1)).toArray) := rfl
          clear hst hk0 hd2 hd hlen
          generalize hb2 : ByteArray.mk (hTo f (k + 1)).toArray = b2 at *
          generalize ByteArray.mk (hTo f k).toArray = b0 at *
          generalize ByteArray.mk (Lib.decDigits x).toArray = bd at *
          have HB2 := Lib.hid hb2
          clear hb2 HE
          go_wp2_with (go_at_call 45; refine (HIT.out _).mono ?_; rintro e w' ⟨rfl, rfl⟩)
          go_roundw
          case rel => exact ⟨k + 1, by omega, by rw [HB2.out], by go_num, by first | exact ⟨_, rfl⟩ | exact ⟨_, World.drewN_drewN _ _ _⟩⟩
          case measure => simp [intOf]; omega
        · rw [if_neg hk0] at hst
          have hA := fun W => add_texts W (hTo f k) [44] (by simp; omega)
          have hA2 := fun W => add_texts W (hTo f k ++ [44]) (Lib.decDigits x) (by simp; omega)
          rw [← hst] at hA2
          have hk1 : (0 : Int) < (k : Int) := by omega
          clear hst hk0 hd2 hd hlen
          generalize hb2 : ByteArray.mk (hTo f (k + 1)).toArray = b2 at *
          generalize ByteArray.mk (hTo f k ++ [44]).toArray = b1 at *
          generalize ByteArray.mk (hTo f k).toArray = b0 at *
          generalize ByteArray.mk (Lib.decDigits x).toArray = bd at *
          have HB2 := Lib.hid hb2
          clear hb2
          go_wp2_with (go_at_call 45; refine (HIT.out _).mono ?_; rintro e w' ⟨rfl, rfl⟩)
          go_roundw
          case rel => exact ⟨k + 1, by omega, by rw [HB2.out], by go_num, by first | exact ⟨_, rfl⟩ | exact ⟨_, World.drewN_drewN _ _ _⟩⟩
          case measure => simp [intOf]; omega
      · obtain rfl : k = n := by omega
        go_wp2
        go_ret
        exact ⟨by rw [HN.out]; rfl, _, rfl⟩

set_option maxRecDepth 100000 in
set_option maxHeartbeats 800000 in
theorem spec_HeightsText {w : World} {B : Nat} {A : Option Addr} {n c : Nat} {f : Nat → Int} (hn : n ≤ 9223372036854775806) (hB : B ≤ w.heap.size) (hs : Ints w B A n f) :
    Calls Tryz.prog 111 #[.slice A n c] w fun e w' => e = .returned (.string ⟨(textOf f n).toArray⟩) ∧ Below w.heap.size w w' := by
  go_enter Tryz.func111, Tryz.ntmps111
  go_wp2
  go_loopw [3, 4] (fun s3 s4 wr => ∃ k : Nat, k ≤ n ∧ s3 = .string ⟨(if floorsB f n = true then hTo f k else []).toArray⟩ ∧ s4 = .int .i64 k ∧ (floorsB f n = false → k = 0) ∧ Below w.heap.size w wr) (fun _ s4 _ => n - (intOf s4).toNat)
  case atStart => exact ⟨0, Nat.zero_le _, by split <;> rfl, rfl, fun _ => rfl, Below.refl _ _⟩
  case round =>
    obtain ⟨k, hk, rfl, rfl, hk0, HB⟩ := hrel
    have hs' := hs.below (HB.mono hB)
    have HBH := Lib.hid HB
    cases hv : floorsB f n
    · have HN := Lib.hid (textOf_no hv)
      simp only [hv, Bool.false_eq_true, if_false]
      obtain rfl := hk0 hv
      by_cases hn0 : 0 < n
      · go_wp2_with (go_at_call 89; refine (spec_FloorsValid hn hs').mono ?_; rintro e w2 ⟨rfl, m2, rfl⟩; rw [hv])
        go_ret
        exact ⟨by rw [HN.out]; rfl, below_drewN HBH.out _⟩
      · obtain rfl : n = 0 := by omega
        go_wp2
        go_ret
        exact ⟨by rw [HN.out]; rfl, HBH.out⟩
    · have HN := Lib.hid (textOf_yes hv)
      simp only [hv, if_true]
      have HI := fun k (hk : k < n) => floorsB_in hv hk
      have hlen := hTo_len (n := n) k (fun i hi => HI i (by omega))
      have hn8 := (floorsB_iff.1 hv).2.1
      have HV := Lib.hid hv
      clear hk0
      by_cases hlt : k < n
      · obtain ⟨b, off, rfl, _, hc⟩ := id hs' (by omega)
        have c0 := hc k hlt
        obtain ⟨h0, h1⟩ := HI k hlt
        clear hc HI
        have hst : hTo f (k + 1) = hTo f k ++ (if k = 0 then [] else [44]) ++ Lib.decDigits (f k).toNat := rfl
        have hd := decDigits_100 (i := (f k).toNat) (by omega)
        obtain ⟨x, hx⟩ : ∃ x : Nat, f k = x := ⟨(f k).toNat, by omega⟩
        rw [hx] at c0 hst hd h0 h1
        rw [Int.toNat_natCast] at hst hd
        have HIT := Lib.hid (l1Number_any (i := x) (by omega))
        by_cases hk0 : k = 0
        · rw [if_pos hk0, List.append_nil] at hst
          have hA := fun W => add_texts W (hTo f k) (Lib.decDigits x) (by omega)
          rw [← hst] at hA
          have hk1 : ¬ (0 : Int) < (k : Int) := by omega
          clear hst hk0 hd hlen
          generalize hb2 : ByteArray.mk (hTo f (k + 1)).toArray = b2 at *
          generalize ByteArray.mk (hTo f k).toArray = b0 at *
          generalize ByteArray.mk (Lib.decDigits x).toArray = bd at *
          have HB2 := Lib.hid hb2
          clear hb2
          go_wp2_with (first
            | (go_at_call 89; refine (spec_FloorsValid hn hs').mono ?_; rintro e w2 ⟨rfl, m2, rfl⟩; rw [HV.out])
            | (go_at_call 58; refine (HIT.out _).mono ?_; rintro e w3 ⟨rfl, hb3⟩; have HB3 := Lib.hid hb3; clear hb3))
          go_roundw
          case rel => exact ⟨k + 1, by omega, by rw [HB2.out], by go_num, (fun h => nomatch h), HBH.out.trans ((below_drewN (Below.refl _ _) _).trans (HB3.out.mono HBH.out.size))⟩
          case measure => simp [intOf]; omega
        · rw [if_neg hk0] at hst
          have hA := fun W => add_texts W (hTo f k) [44] (by simp; omega)
          have hA2 := fun W => add_texts W (hTo f k ++ [44]) (Lib.decDigits x) (by simp; omega)
          rw [← hst] at hA2
          have hk1 : (0 : Int) < (k : Int) := by omega
          clear hst hk0 hd hlen
          generalize hb2 : ByteArray.mk (hTo f (k + 1)).toArray = b2 at *
          generalize ByteArray.mk (hTo f k ++ [44]).toArray = b1 at *
          generalize ByteArray.mk (hTo f k).toArray = b0 at *
          generalize ByteArray.mk (Lib.decDigits x).toArray = bd at *
          have HB2 := Lib.hid hb2
          clear hb2
          go_wp2_with (first
            | (go_at_call 89; refine (spec_FloorsValid hn hs').mono ?_; rintro e w2 ⟨rfl, m2, rfl⟩; rw [HV.out])
            | (go_at_call 58; refine (HIT.out _).mono ?_; rintro e w3 ⟨rfl, hb3⟩; have HB3 := Lib.hid hb3; clear hb3))
          go_roundw
          case rel => exact ⟨k + 1, by omega, by rw [HB2.out], by go_num, (fun h => nomatch h), HBH.out.trans ((below_drewN (Below.refl _ _) _).trans (HB3.out.mono HBH.out.size))⟩
          case measure => simp [intOf]; omega
      · obtain rfl : k = n := by omega
        go_wp2
        go_ret
        exact ⟨by rw [HN.out]; rfl, HBH.out⟩
end Go.Proofs.YthkpikkjgggimaaGreatDoor
