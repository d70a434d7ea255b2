/-
  The contracts of PeopleOk, ClearWays and LeastWays, in the reference and in the program. No claim stands here.
-/
import Derived.Test.YthbphjfaeklfdaaFloors
namespace Go.Proofs.Ythbphjfaeklfdaa
open Go.RowKit
set_option linter.unusedVariables false
set_option linter.unusedSimpArgs false

theorem people_no1 {f : Nat → Int} {n : Nat} {p : Nat → Int} {m : Nat} {r : Int} (h : floorsB f n = false) : peopleB f n p m r = false := by simp [peopleB, h]
theorem people_no2 {f : Nat → Int} {n : Nat} {p : Nat → Int} {m : Nat} {r : Int} (h : m ≠ n) : peopleB f n p m r = false := by simp [peopleB, h]
theorem people_no3 {f : Nat → Int} {n : Nat} {p : Nat → Int} {m : Nat} {r : Int} (h : allB (withinP p 31) m = false) : peopleB f n p m r = false := by simp [peopleB, h]
theorem people_end {f : Nat → Int} {n : Nat} {p : Nat → Int} {m : Nat} {r : Int} (h1 : floorsB f n = true) (h2 : m = n) (h3 : allB (withinP p 31) m = true) : peopleB f n p m r = inB r 1 8 := by simp [peopleB, h1, h2, h2 ▸ h3]

theorem impl_PeopleOk {w : World} {B B' : Nat} {A A' : Option Addr} {n c m c' : Nat} {f p : Nat → Int} (r : Int) (hn : n ≤ 9223372036854775806) (hm : m ≤ 9223372036854775806) (hs : Ints w B A n f) (hp : Ints w B' A' m p) :
    Calls Try.prog 17 #[.slice A n c, .slice A' m c', .int .i64 r] w fun e w' => e = .returned (.bool (peopleB f n p m r)) ∧ Drew w w' := by
  cases hv : floorsB f n
  · have HN := Lib.hid (people_no1 (p := p) (m := m) (r := r) hv)
    go_enter Try.func17, Try.ntmps17
    go_wp2_with (go_at_call 36; refine (impl_FloorsValid hn hs).mono ?_; rintro e w' ⟨rfl, j, rfl⟩)
    go_ret
    exact ⟨ret_bool HN.out.symm, _, rfl⟩
  · by_cases hmn : m = n
    · subst hmn
      cases ha : allB (withinP p 31) m
      · have HN := Lib.hid (people_no3 (f := f) (n := m) (r := r) ha)
        go_enter Try.func17, Try.ntmps17
        go_wp2_with (first
          | (go_at_call 36; refine (impl_FloorsValid hn hs).mono ?_; rintro e w' ⟨rfl, j, rfl⟩)
          | (go_at_call 37; refine (allWithin_any 31 hm (hp.drewN _)).mono ?_; rintro e w' ⟨rfl, rfl⟩))
        go_ret
        exact ⟨ret_bool HN.out.symm, _, rfl⟩
      · have HN := Lib.hid (people_end (r := r) hv rfl ha)
        go_enter Try.func17, Try.ntmps17
        go_wp2_with (first
          | (go_at_call 36; refine (impl_FloorsValid hn hs).mono ?_; rintro e w' ⟨rfl, j, rfl⟩)
          | (go_at_call 37; refine (allWithin_any 31 hm (hp.drewN _)).mono ?_; rintro e w' ⟨rfl, rfl⟩)
          | (go_at_call 33; refine (roomValid_any _ _).mono ?_; rintro e w' ⟨rfl, rfl⟩))
        go_ret
        exact ⟨ret_bool HN.out.symm, _, rfl⟩
    · have HN := Lib.hid (people_no2 (f := f) (p := p) (r := r) hmn)
      have he : ((m : Int) == (n : Int)) = false := by simp; omega
      clear hmn
      go_enter Try.func17, Try.ntmps17
      go_wp2_with (go_at_call 36; refine (impl_FloorsValid hn hs).mono ?_; rintro e w' ⟨rfl, j, rfl⟩)
      go_ret
      exact ⟨ret_bool HN.out.symm, _, rfl⟩

theorem spec_PeopleOk {w : World} {B B' : Nat} {A A' : Option Addr} {n c m c' : Nat} {f p : Nat → Int} (r : Int) (hn : n ≤ 9223372036854775806) (hm : m ≤ 9223372036854775806) (hs : Ints w B A n f) (hp : Ints w B' A' m p) :
    Calls Try.prog 15 #[.slice A n c, .slice A' m c', .int .i64 r] w fun e w' => e = .returned (.bool (peopleB f n p m r)) ∧ Drew w w' := by
  go_enter Try.func15, Try.ntmps15
  go_wp2
  go_loop [7] (fun s7 => ∃ k : Nat, k ≤ m ∧ s7 = .int .i64 k ∧ Hid (allB (withinP p 31) k = true)) (fun s7 => m - (intOf s7).toNat)
  case atStart => exact ⟨0, Nat.zero_le _, rfl, rfl⟩
  case round =>
    obtain ⟨k, hk, rfl, HK⟩ := hrel
    by_cases hlt : k < m
    · obtain ⟨b, off, rfl, _, hc⟩ := hp (by omega)
      have c0 := hc k hlt
      clear hc hs hp
      cases hi : inB (p k) 0 30
      · have HN := Lib.hid (people_no3 (f := f) (n := n) (r := r) (allB_no hlt (show withinP p 31 k = false from hi)))
        go_wp2_with (go_at_call 32; refine (l1In_any _ _ _ _).mono ?_; rintro e w' ⟨rfl, rfl⟩)
        go_ret
        exact ⟨ret_bool HN.out.symm, Drew.refl _⟩
      · have HN := Lib.hid (show withinP p 31 k = true from hi)
        go_wp2_with (go_at_call 32; refine (l1In_any _ _ _ _).mono ?_; rintro e w' ⟨rfl, rfl⟩)
        go_round
        case rel => exact ⟨k + 1, by omega, by go_num, allB_succ HK.out HN.out⟩
        case measure => simp [intOf]; omega
    · obtain rfl : k = m := by omega
      cases hv : floorsB f n
      · have HN := Lib.hid (people_no1 (p := p) (m := k) (r := r) hv)
        go_wp2_with (go_at_call 35; refine (spec_FloorsValid hn hs).mono ?_; rintro e w' ⟨rfl, j, rfl⟩)
        go_ret
        exact ⟨ret_bool HN.out.symm, _, rfl⟩
      · by_cases hmn : k = n
        · have HN := Lib.hid (people_end (r := r) hv hmn HK.out)
          have he : ((k : Int) == (n : Int)) = true := by simp; omega
          clear hmn
          go_wp2_with (first
            | (go_at_call 35; refine (spec_FloorsValid hn hs).mono ?_; rintro e w' ⟨rfl, j, rfl⟩)
            | (go_at_call 32; refine (l1In_any _ _ _ _).mono ?_; rintro e w' ⟨rfl, rfl⟩))
          go_ret
          exact ⟨ret_bool HN.out.symm, _, rfl⟩
        · have HN := Lib.hid (people_no2 (f := f) (p := p) (r := r) hmn)
          have he : ((k : Int) == (n : Int)) = false := by simp; omega
          clear hmn
          go_wp2_with (go_at_call 35; refine (spec_FloorsValid hn hs).mono ?_; rintro e w' ⟨rfl, j, rfl⟩)
          go_ret
          exact ⟨ret_bool HN.out.symm, _, rfl⟩

theorem clear_facts {f p : Nat → Int} {r : Int} {n k : Nat} (hf : ∀ i, i < n → 0 ≤ f i ∧ f i ≤ 60) (hp : ∀ i, i < n → 0 ≤ p i ∧ p i ≤ 30) (hr : 1 ≤ r) (hr8 : r ≤ 8) (hk : k < n) :
    (0 ≤ roundUp (p k) r ∧ roundUp (p k) r ≤ 30) ∧ (0 ≤ roundUp (p k) r * 2 * f k ∧ roundUp (p k) r * 2 * f k ≤ 3600) ∧ 2 * f k * roundUp (p k) r = roundUp (p k) r * 2 * f k ∧ tripsFor (p k) r = roundUp (p k) r := by
  have b := hf k hk
  have c := hp k hk
  have d := roundUp_nonneg hr c.1
  have e := roundUp_le hr c.1
  have g : roundUp (p k) r * 2 * f k ≤ 60 * 60 := Int.mul_le_mul (by omega) b.2 b.1 (by omega)
  have g' : 0 ≤ roundUp (p k) r * 2 * f k := Int.mul_nonneg (by omega) b.1
  refine ⟨⟨d, by omega⟩, ⟨g', by omega⟩, ?_, tripsFor_yes (inB_iff.2 c) (inB_iff.2 ⟨hr, hr8⟩)⟩
  rw [Int.mul_comm (2 * f k), Int.mul_assoc]

set_option maxHeartbeats 800000 in
theorem impl_ClearWays {w : World} {B B' : Nat} {A A' : Option Addr} {n c m c' : Nat} {f p : Nat → Int} (r : Int) (hn : n ≤ 9223372036854775806) (hm : m ≤ 9223372036854775806) (hs : Ints w B A n f) (hp : Ints w B' A' m p) :
    Calls Try.prog 24 #[.slice A n c, .slice A' m c', .int .i64 r] w fun e w' => e = .returned (.int .i64 (clearOf f n p m r)) ∧ Drew w w' := by
  cases hv : peopleB f n p m r
  · have HN := Lib.hid (clearOf_no hv)
    go_enter Try.func24, Try.ntmps24
    go_wp2_with (go_at_call 17; refine (impl_PeopleOk r hn hm hs hp).mono ?_; rintro e w' ⟨rfl, j, rfl⟩)
    go_ret
    exact ⟨ret_int HN.out.symm, _, rfl⟩
  · have HN := Lib.hid (clearOf_yes hv)
    obtain ⟨hfl, rfl, hpb, hr1, hr8⟩ := peopleB_iff.1 hv
    have HF := Lib.hid (floors_bound hfl)
    have HP := Lib.hid hpb
    have HB := Lib.hid (clearTo_bound (r := r) HF.out HP.out hr1)
    have hn8 : m ≤ 8 := (floorsB_iff.1 hfl).2.1
    clear hfl hpb
    go_enter Try.func24, Try.ntmps24
    go_wp2_with (go_at_call 17; refine (impl_PeopleOk r hn hm hs hp).mono ?_; rintro e w' ⟨rfl, j, rfl⟩)
    clear hv
    go_loop [7, 17] (fun s7 s17 => ∃ k : Nat, k ≤ m ∧ s17 = .int .i64 k ∧ s7 = .int .i64 (clearTo f p r k)) (fun _ s17 => m - (intOf s17).toNat)
    case atStart => exact ⟨0, Nat.zero_le _, rfl, rfl⟩
    case round =>
      obtain ⟨k, hk, rfl, rfl⟩ := hrel
      obtain ⟨q1, q2⟩ := HB.out k hk
      by_cases hlt : k < m
      · obtain ⟨b, off, rfl, _, hc⟩ := hs (by omega)
        obtain ⟨b', off', rfl, _, hc'⟩ := hp (by omega)
        have c0 := hc k hlt
        have c1 := hc' k hlt
        obtain ⟨⟨d1, d2⟩, ⟨d3, d4⟩, _, d5⟩ := clear_facts (r := r) HF.out HP.out hr1 hr8 hlt
        have HT := Lib.hid d5
        clear hc hs hc' hp d5
        go_wp2_with (go_at_call 14; refine (impl_TripsFor _ _ _).mono ?_; rintro e w' ⟨rfl, rfl⟩; rw [HT.out])
        go_round
        case rel => exact ⟨k + 1, by omega, by go_num, rfl⟩
        case measure => simp [intOf]; omega
      · obtain rfl : k = m := by omega
        go_wp2
        go_ret
        exact ⟨ret_int HN.out.symm, _, rfl⟩

set_option maxHeartbeats 800000 in
theorem spec_ClearWays {w : World} {B B' : Nat} {A A' : Option Addr} {n c m c' : Nat} {f p : Nat → Int} (r : Int) (hn : n ≤ 9223372036854775806) (hm : m ≤ 9223372036854775806) (hs : Ints w B A n f) (hp : Ints w B' A' m p) :
    Calls Try.prog 23 #[.slice A n c, .slice A' m c', .int .i64 r] w fun e w' => e = .returned (.int .i64 (clearOf f n p m r)) ∧ Drew w w' := by
  cases hv : peopleB f n p m r
  · have HN := Lib.hid (clearOf_no hv)
    go_enter Try.func23, Try.ntmps23
    go_wp2_with (go_at_call 15; refine (spec_PeopleOk r hn hm hs hp).mono ?_; rintro e w' ⟨rfl, j, rfl⟩)
    go_ret
    exact ⟨ret_int HN.out.symm, _, rfl⟩
  · have HN := Lib.hid (clearOf_yes hv)
    obtain ⟨hfl, rfl, hpb, hr1, hr8⟩ := peopleB_iff.1 hv
    have HF := Lib.hid (floors_bound hfl)
    have HP := Lib.hid hpb
    have HB := Lib.hid (clearTo_bound (r := r) HF.out HP.out hr1)
    have hn8 : m ≤ 8 := (floorsB_iff.1 hfl).2.1
    clear hfl hpb
    go_enter Try.func23, Try.ntmps23
    go_wp2_with (go_at_call 15; refine (spec_PeopleOk r hn hm hs hp).mono ?_; rintro e w' ⟨rfl, j, rfl⟩)
    clear hv
    go_loopw [7, 8] (fun s7 s8 wr => ∃ k : Nat, k ≤ m ∧ s8 = .int .i64 k ∧ s7 = .int .i64 (clearTo f p r k) ∧ Drew w wr) (fun _ s8 _ => m - (intOf s8).toNat)
    case atStart => exact ⟨0, Nat.zero_le _, rfl, rfl, _, rfl⟩
    case round =>
      obtain ⟨k, hk, rfl, rfl, i, rfl⟩ := hrel
      obtain ⟨q1, q2⟩ := HB.out k hk
      by_cases hlt : k < m
      · obtain ⟨b, off, rfl, _, hc⟩ := hs (by omega)
        obtain ⟨b', off', rfl, _, hc'⟩ := hp (by omega)
        have c0 := hc k hlt
        have c1 := hc' k hlt
        obtain ⟨⟨d1, d2⟩, ⟨d3, d4⟩, d6, d5⟩ := clear_facts (r := r) HF.out HP.out hr1 hr8 hlt
        obtain ⟨g1, g2⟩ := HF.out k hlt
        have HM := Lib.hid d6
        have d7 : 0 ≤ 2 * f k * tripsFor (p k) r := by rw [d5]; omega
        have d8 : 2 * f k * tripsFor (p k) r ≤ 3600 := by rw [d5]; omega
        have HT := Lib.hid d5
        have HE : Hid (clearTo f p r k + 2 * f k * tripsFor (p k) r = clearTo f p r (k + 1)) := by simp only [Hid, clearTo]; rw [d5, d6]
        clear hc hs hc' hp d5 d6
        have k1 : (k : Int) < m := by omega
        go_wp2
        go_quiet ((go_at_call 13; exact quiet_add_left (spec_TripsFor _ _ _)))
        go_wp2
        go_roundw
        case rel => exact ⟨k + 1, by omega, by go_num, congrArg (Value.int .i64) HE.out, by first | exact ⟨_, rfl⟩ | exact ⟨_, World.drewN_drewN _ _ _⟩⟩
        case measure => simp [intOf]; omega
      · obtain rfl : k = m := by omega
        go_wp2
        go_ret
        exact ⟨ret_int HN.out.symm, _, rfl⟩
end Go.Proofs.Ythbphjfaeklfdaa
