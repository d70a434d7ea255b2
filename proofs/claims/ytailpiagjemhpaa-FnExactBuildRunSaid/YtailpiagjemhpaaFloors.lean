/-
  The contracts of FloorsValid, FloorAt and alive. No claim stands here.
-/
import Derived.Test.YtailpiagjemhpaaRead
import Derived.Test.YtailpiagjemhpaaRow
import Derived.Test.YtailpiagjemhpaaPeopleM
namespace Go.Proofs.Ytailpiagjemhpaa
open Go.RowKit
set_option linter.unusedVariables false
set_option linter.unusedSimpArgs false

theorem floors_no {f : Nat → Int} {n : Nat} (h : ¬ (1 ≤ n ∧ n ≤ 8 ∧ f 0 = 0)) : floorsB f n = false := by
  rw [Bool.eq_false_iff]; intro h'
  obtain ⟨a, b, c, _⟩ := floorsB_iff.1 h'
  exact h ⟨a, b, c⟩
theorem floors_no2 {f : Nat → Int} {n k : Nat} (h0 : 0 < k) (hk : k < n) (h : f k ≤ f (k - 1)) : floorsB f n = false := by
  rw [Bool.eq_false_iff]; intro h'
  have := (floorsB_iff.1 h').2.2.2.1 k h0 hk
  omega
theorem floors_end {f : Nat → Int} {n : Nat} (h1 : 1 ≤ n) (h2 : n ≤ 8) (h3 : f 0 = 0) (h4 : allB (floorP f) n = true) : floorsB f n = decide (f (n - 1) ≤ 60) := by
  simp [floorsB, h1, h2, h3, h4]

set_option maxHeartbeats 400000 in
theorem impl_FloorsValid {w : World} {B : Nat} {A : Option Addr} {n c : Nat} {f : Nat → Int} (hn : n ≤ 9223372036854775806) (hs : Ints w B A n f) :
    Calls Try.prog 69 #[.slice A n c] w fun e w' => e = .returned (.bool (floorsB f n)) ∧ Drew w w' := by
  by_cases h1 : 1 ≤ n
  · by_cases h2 : n ≤ 8
    · obtain ⟨b, off, rfl, _, hc⟩ := hs (by omega)
      have cz : w.cell? ⟨b, off, none⟩ = some (.int .i64 (f 0)) := hc 0 (by omega)
      by_cases h3 : f 0 = 0
      · have hz : (f 0 == 0) = true := by simp [h3]
        have H3 := Lib.hid h3
        have H1 := Lib.hid h1
        have k0 : ¬ ((n : Int) < 1) := by omega
        have k1 : ¬ (8 < (n : Int)) := by omega
        clear h3
        go_enter Try.func69, Try.ntmps69
        go_wp2
        go_loopw [3] (fun s3 wr => ∃ k : Nat, 1 ≤ k ∧ k ≤ n ∧ s3 = .int .i64 k ∧ Hid (allB (floorP f) k = true) ∧ Drew w wr) (fun s3 _ => n - (intOf s3).toNat)
        case atStart => exact ⟨1, Nat.le_refl _, h1, rfl, by simp [Hid, allB, floorP], Drew.refl _⟩
        case round =>
          obtain ⟨k, hk0, hk, rfl, HK, m, rfl⟩ := hrel
          by_cases hlt : k < n
          · have c0 := hc k hlt
            have c1 := hc (k - 1) (by omega)
            clear hc cz
            have j0 : (0 : Int) ≤ (k : Int) - 1 := by omega
            have j1 : (k : Int) < n := by omega
            by_cases h4 : f k ≤ f (k - 1)
            · have HN := Lib.hid (floors_no2 (by omega) hlt h4)
              go_wp2
              go_quiet (fail)
              go_wp2
              go_ret
              exact ⟨ret_bool HN.out.symm, by first | exact ⟨_, rfl⟩ | exact ⟨_, World.drewN_drewN _ _ _⟩⟩
            · have HN : Hid (floorP f k = true) := by simp [Hid, floorP]; omega
              go_wp2
              go_quiet (fail)
              go_wp2
              go_roundw
              case rel => exact ⟨k + 1, by omega, by omega, by go_num, allB_succ HK.out HN.out, by first | exact ⟨_, rfl⟩ | exact ⟨_, World.drewN_drewN _ _ _⟩⟩
              case measure => simp [intOf]; omega
          · obtain rfl : k = n := by omega
            have c0 := hc (k - 1) (by omega)
            have HN := Lib.hid (floors_end H1.out h2 H3.out HK.out)
            clear hc cz
            go_wp2
            go_ret
            exact ⟨ret_bool HN.out.symm, _, rfl⟩
      · have hz : (f 0 == 0) = false := by simp [h3]
        have HN := Lib.hid (floors_no (f := f) (n := n) (fun h => h3 h.2.2))
        have k0 : ¬ ((n : Int) < 1) := by omega
        have k1 : ¬ (8 < (n : Int)) := by omega
        clear h3 hc
        go_enter Try.func69, Try.ntmps69
        go_wp2
        go_ret
        exact ⟨ret_bool HN.out.symm, Drew.refl _⟩
    · have HN := Lib.hid (floors_no (f := f) (n := n) (fun h => h2 h.2.1))
      have k0 : ¬ ((n : Int) < 1) := by omega
      have k1 : 8 < (n : Int) := by omega
      clear h2
      go_enter Try.func69, Try.ntmps69
      go_wp2
      go_ret
      exact ⟨ret_bool HN.out.symm, Drew.refl _⟩
  · have HN := Lib.hid (floors_no (f := f) (n := n) (fun h => h1 h.1))
    have k0 : (n : Int) < 1 := by omega
    clear h1
    go_enter Try.func69, Try.ntmps69
    go_wp2
    go_ret
    exact ⟨ret_bool HN.out.symm, Drew.refl _⟩

theorem floorQ_no1 {f : Nat → Int} {k : Nat} (h : inB (f k) 0 60 = false) : floorQ f k = false := by simp [floorQ, h]
theorem floorQ_yes {f : Nat → Int} {k : Nat} (h : inB (f k) 0 60 = true) (h' : k = 0 ∨ f (k - 1) < f k) : floorQ f k = true := by simp [floorQ, h, h']
theorem floorQ_no2 {f : Nat → Int} {k : Nat} (h0 : 0 < k) (h' : f k ≤ f (k - 1)) : floorQ f k = false := by
  simp only [floorQ, Bool.and_eq_false_iff, Bool.or_eq_false_iff, decide_eq_false_iff_not]
  exact .inr ⟨by omega, by omega⟩
theorem floorsQ_no {f : Nat → Int} {n k : Nat} (hk : k < n) (h : floorQ f k = false) : floorsB f n = false := by rw [floorsB_spec, allB_no hk h]; simp
theorem floorsQ_end {f : Nat → Int} {n : Nat} (h1 : 1 ≤ n) (h2 : n ≤ 8) (h4 : allB (floorQ f) n = true) : floorsB f n = decide (f 0 = 0) := by rw [floorsB_spec]; simp [h1, h2, h4]

set_option maxHeartbeats 800000 in
theorem spec_FloorsValid {w : World} {B : Nat} {A : Option Addr} {n c : Nat} {f : Nat → Int} (hn : n ≤ 9223372036854775806) (hs : Ints w B A n f) :
    Calls Try.prog 108 #[.slice A n c] w fun e w' => e = .returned (.bool (floorsB f n)) ∧ Drew w w' := by
  go_enter Try.func108, Try.ntmps108
  go_wp2
  go_loopw [3] (fun s3 wr => ∃ k : Nat, k ≤ n ∧ s3 = .int .i64 k ∧ Hid (allB (floorQ f) k = true) ∧ Drew w wr) (fun s3 _ => n - (intOf s3).toNat)
  case atStart => exact ⟨0, Nat.zero_le _, rfl, rfl, Drew.refl _⟩
  case round =>
    obtain ⟨k, hk, rfl, HK, m, rfl⟩ := hrel
    by_cases hlt : k < n
    · obtain ⟨b, off, rfl, _, hc⟩ := hs (by omega)
      have c0 := hc k hlt
      have c1 := hc (k - 1) (by omega)
      clear hc hs
      cases hp : inB (f k) 0 60
      · have HN := Lib.hid (floorsQ_no (f := f) hlt (floorQ_no1 hp))
        go_wp2
        go_quiet ((go_at_call 67; exact quiet_add_left (l1In_any _ _ _ _)))
        go_wp2
        go_ret
        exact ⟨ret_bool HN.out.symm, by first | exact ⟨_, rfl⟩ | exact ⟨_, World.drewN_drewN _ _ _⟩⟩
      · by_cases h0 : 0 < k
        · have hd : decide ((0 : Int) < (k : Int)) = true := by simp; omega
          by_cases h1 : f (k - 1) < f k
          · have HN := Lib.hid (floorQ_yes hp (.inr h1))
            go_wp2
            go_quiet ((go_at_call 67; exact quiet_add_left (l1In_any _ _ _ _)))
            go_wp2
            go_roundw
            case rel => exact ⟨k + 1, by omega, by go_num, allB_succ HK.out HN.out, by first | exact ⟨_, rfl⟩ | exact ⟨_, World.drewN_drewN _ _ _⟩⟩
            case measure => simp [intOf]; omega
          · have HN := Lib.hid (floorsQ_no (f := f) hlt (floorQ_no2 h0 (by omega)))
            go_wp2
            go_quiet ((go_at_call 67; exact quiet_add_left (l1In_any _ _ _ _)))
            go_wp2
            go_ret
            exact ⟨ret_bool HN.out.symm, by first | exact ⟨_, rfl⟩ | exact ⟨_, World.drewN_drewN _ _ _⟩⟩
        · have hd : decide ((0 : Int) < (k : Int)) = false := by simp; omega
          have HN := Lib.hid (floorQ_yes hp (.inl (by omega)))
          go_wp2
          go_quiet ((go_at_call 67; exact quiet_add_left (l1In_any _ _ _ _)))
          go_wp2
          go_roundw
          case rel => exact ⟨k + 1, by omega, by go_num, allB_succ HK.out HN.out, by first | exact ⟨_, rfl⟩ | exact ⟨_, World.drewN_drewN _ _ _⟩⟩
          case measure => simp [intOf]; omega
    · obtain rfl : k = n := by omega
      cases hl : inB (k : Int) 1 8
      · have HN : Hid (floorsB f k = false) := floors_no (by have := inB_no.1 hl; omega)
        go_wp2_with (go_at_call 67; refine (l1In_any _ _ _ _).mono ?_; rintro e w' ⟨rfl, rfl⟩)
        go_ret
        exact ⟨ret_bool HN.out.symm, _, rfl⟩
      · obtain ⟨q1, q2⟩ := inB_iff.1 hl
        obtain ⟨b, off, rfl, _, hc⟩ := hs (by omega)
        have cz : w.cell? ⟨b, off, none⟩ = some (.int .i64 (f 0)) := hc 0 (by omega)
        have HN := Lib.hid (floorsQ_end (f := f) (n := k) (by omega) (by omega) HK.out)
        clear hc
        go_wp2_with (go_at_call 67; refine (l1In_any _ _ _ _).mono ?_; rintro e w' ⟨rfl, rfl⟩)
        go_ret
        exact ⟨ret_bool (by rw [HN.out, Bool.eq_iff_iff]; simp), _, rfl⟩

theorem impl_FloorAt {w : World} {B : Nat} {A : Option Addr} {n c : Nat} {f : Nat → Int} (a : Int) (hn : n ≤ 9223372036854775806) (hs : Ints w B A n f) :
    Calls Try.prog 19 #[.slice A n c, .int .i64 a] w fun e w' => e = .returned (.int .i64 (floorAtOf f n a)) ∧ Drew w w' := by
  cases hv : floorsB f n
  · have HN := Lib.hid (floorAt_no (a := a) hv)
    go_enter Try.func19, Try.ntmps19
    go_wp2_with (go_at_call 69; refine (impl_FloorsValid hn hs).mono ?_; rintro e w' ⟨rfl, m, rfl⟩)
    go_ret
    exact ⟨ret_int HN.out.symm, _, rfl⟩
  · have HV := Lib.hid hv
    go_enter Try.func19, Try.ntmps19
    go_wp2_with (go_at_call 69; refine (impl_FloorsValid hn hs).mono ?_; rintro e w' ⟨rfl, m, rfl⟩)
    clear hv
    go_loop [12] (fun s12 => ∃ k : Nat, k ≤ n ∧ s12 = .int .i64 k ∧ Hid (∀ i, i < k → heightP f a i = false)) (fun s12 => n - (intOf s12).toNat)
    case atStart => exact ⟨0, Nat.zero_le _, rfl, fun i hi => absurd hi (by omega)⟩
    case round =>
      obtain ⟨k, hk, rfl, HK⟩ := hrel
      by_cases hlt : k < n
      · obtain ⟨b, off, rfl, _, hc⟩ := hs (by omega)
        have c0 := hc k hlt
        clear hc hs
        cases he : (f k == a)
        · have HN : Hid (∀ i, i < k + 1 → heightP f a i = false) := fun i hi => by
            by_cases e : i = k
            · subst e; exact he
            · exact HK.out i (by omega)
          go_wp2
          go_round
          case rel => exact ⟨k + 1, by omega, by go_num, HN.out⟩
          case measure => simp [intOf]; omega
        · have HN := Lib.hid (floorAt_hit HV.out hlt he HK.out)
          go_wp2
          go_ret
          exact ⟨ret_int HN.out.symm, _, rfl⟩
      · obtain rfl : k = n := by omega
        have HN := Lib.hid (floorAt_none HK.out)
        go_wp2
        go_ret
        exact ⟨ret_int HN.out.symm, _, rfl⟩
end Go.Proofs.Ytailpiagjemhpaa
