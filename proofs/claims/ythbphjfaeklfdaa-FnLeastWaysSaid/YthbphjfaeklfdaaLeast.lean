/-
  The contracts of LeastWays, in the reference and in the program. No claim stands here.
-/
import Derived.Test.YthbphjfaeklfdaaPeople
namespace Go.Proofs.Ythbphjfaeklfdaa
open Go.RowKit
set_option linter.unusedVariables false
set_option linter.unusedSimpArgs false

/-- What a round of LeastWays meets. -/
theorem least_facts {f p : Nat → Int} {r : Int} {n d : Nat} (hfl : floorsB f n = true) (hp : ∀ i, i < n → 0 ≤ p i ∧ p i ≤ 30) (hr : 1 ≤ r) (hr8 : r ≤ 8) (hd : d + 1 < n) :
    (0 ≤ suf p n (d + 1 + 1) ∧ suf p n (d + 1 + 1) ≤ 240) ∧ (0 ≤ p (d + 1) ∧ p (d + 1) ≤ 30) ∧ suf p n (d + 1 + 1) + p (d + 1) = suf p n (d + 1) ∧
    (0 ≤ f (d + 1) - f d ∧ f (d + 1) - f d ≤ 60) ∧ (0 ≤ roundUp (suf p n (d + 1 + 1) + p (d + 1)) r ∧ roundUp (suf p n (d + 1 + 1) + p (d + 1)) r ≤ 270) ∧
    (0 ≤ 2 * roundUp (suf p n (d + 1 + 1) + p (d + 1)) r * (f (d + 1) - f d) ∧ 2 * roundUp (suf p n (d + 1 + 1) + p (d + 1)) r * (f (d + 1) - f d) ≤ 28800) := by
  have hn8 := (floorsB_iff.1 hfl).2.1
  have hs := suf_bound hp hn8
  have hl := floors_lt hfl
  have hb := floors_bound hfl
  have a := hs (d + 1 + 1) (by omega)
  have e : suf p n (d + 1 + 1) + p (d + 1) = suf p n (d + 1) := (suf_succ p n (d + 1)).symm
  have b := hs (d + 1) (by omega)
  have c := hb d (by omega)
  have c' := hb (d + 1) hd
  have l := hl d (d + 1) (by omega) hd
  have s := leastTo_step hl hb hs hr hd
  refine ⟨a, hp _ hd, e, ⟨by omega, by omega⟩, ?_, ?_⟩
  · rw [e]
    have x := roundUp_nonneg hr b.1
    have y := roundUp_le hr b.1
    exact ⟨x, by omega⟩
  · rw [e]; exact s
/-- What is left of the bound, from floor d + 1 down. -/
def leftTo (f p : Nat → Int) (r : Int) (n d : Nat) : Int := leastTo f p r n (n - 1) - leastTo f p r n d
theorem left_step {f p : Nat → Int} {r : Int} {n d : Nat} (e : suf p n (d + 1 + 1) + p (d + 1) = suf p n (d + 1)) :
    leftTo f p r n (d + 1) + 2 * roundUp (suf p n (d + 1 + 1) + p (d + 1)) r * (f (d + 1) - f d) = leftTo f p r n d := by
  rw [e]; simp only [leftTo, leastTo]; omega
theorem left_bound {f p : Nat → Int} {r : Int} {n : Nat} (hfl : floorsB f n = true) (hp : ∀ i, i < n → 0 ≤ p i ∧ p i ≤ 30) (hr : 1 ≤ r) : ∀ d, d + 1 ≤ n → 0 ≤ leftTo f p r n d ∧ leftTo f p r n d ≤ 230400 := by
  intro d hd
  have hn8 := (floorsB_iff.1 hfl).2.1
  have hs := suf_bound hp hn8
  have a := leastTo_mono (floors_lt hfl) (floors_bound hfl) hs hr d (n - 1) (by omega) (by omega)
  have b := leastTo_bound (floors_lt hfl) (floors_bound hfl) hs hr (n - 1) (by omega)
  have c := leastTo_bound (floors_lt hfl) (floors_bound hfl) hs hr d hd
  unfold leftTo; omega

set_option maxHeartbeats 1600000 in
theorem impl_LeastWays {w : World} {B B' : Nat} {A A' : Option Addr} {n c m c' : Nat} {f p : Nat → Int} (r : Int) (hn : n ≤ 9223372036854775806) (hm : m ≤ 9223372036854775806) (hs : Ints w B A n f) (hp : Ints w B' A' m p) :
    Calls Try.prog 22 #[.slice A n c, .slice A' m c', .int .i64 r] w fun e w' => e = .returned (.int .i64 (leastOf f n p m r)) ∧ Drew w w' := by
  cases hv : peopleB f n p m r
  · have HN := Lib.hid (leastOf_no hv)
    go_enter Try.func22, Try.ntmps22
    go_wp2_with (go_at_call 17; refine (impl_PeopleOk r hn hm hs hp).mono ?_; rintro e w' ⟨rfl, j, rfl⟩)
    go_ret
    exact ⟨ret_int HN.out.symm, _, rfl⟩
  · have HN := Lib.hid (leastOf_yes hv)
    obtain ⟨hfl, rfl, hpb, hr1, hr8⟩ := peopleB_iff.1 hv
    have HF := Lib.hid hfl
    have HP := Lib.hid hpb
    have HB := Lib.hid (left_bound (r := r) hfl hpb hr1)
    have hn8 : m ≤ 8 := (floorsB_iff.1 hfl).2.1
    have hn1 : 1 ≤ m := (floorsB_iff.1 hfl).1
    have hr0 : (r == 0) = false := by simp; omega
    clear hfl hpb
    go_enter Try.func22, Try.ntmps22
    go_wp2_with (go_at_call 17; refine (impl_PeopleOk r hn hm hs hp).mono ?_; rintro e w' ⟨rfl, j, rfl⟩)
    clear hv
    go_loopw [7, 8, 9] (fun s7 s8 s9 wr => ∃ d : Nat, d + 1 ≤ m ∧ s9 = .int .i64 d ∧ s8 = .int .i64 (suf p m (d + 1)) ∧ s7 = .int .i64 (leftTo f p r m d) ∧ Drew w wr) (fun _ _ s9 _ => (intOf s9).toNat)
    case atStart => exact ⟨m - 1, by omega, congrArg (Value.int .i64) (by omega), congrArg (Value.int .i64) (by rw [show m - 1 + 1 = m by omega, suf_top]), congrArg (Value.int .i64) (by simp [leftTo]), _, rfl⟩
    case round =>
      obtain ⟨d, hd, rfl, rfl, rfl, i, rfl⟩ := hrel
      cases d with
      | zero =>
        have HE : Hid (leftTo f p r m 0 = leastTo f p r m (m - 1)) := by simp [Hid, leftTo, leastTo]
        go_wp2
        go_ret
        exact ⟨ret_int (HE.out.trans HN.out.symm), _, rfl⟩
      | succ d =>
        obtain ⟨q1, q2⟩ := HB.out (d + 1) hd
        obtain ⟨⟨a1, a2⟩, ⟨a3, a4⟩, ae, ⟨a5, a6⟩, ⟨a7, a8⟩, a9, a10⟩ := least_facts (r := r) (d := d) HF.out HP.out hr1 hr8 (by omega)
        have HA := Lib.hid ae
        have hq : roundUp (suf p m (d + 1 + 1) + p (d + 1)) r = (suf p m (d + 1 + 1) + p (d + 1) + r - 1) / r := rfl
        have hx : 2 * (f (d + 1) - f d) * ((suf p m (d + 1 + 1) + p (d + 1) + r - 1) / r) = 2 * roundUp (suf p m (d + 1 + 1) + p (d + 1)) r * (f (d + 1) - f d) := by
          rw [← hq, Int.mul_assoc, Int.mul_assoc, Int.mul_comm (f (d + 1) - f d)]
        have a11 : 0 ≤ 2 * (f (d + 1) - f d) * ((suf p m (d + 1 + 1) + p (d + 1) + r - 1) / r) := by rw [hx]; exact a9
        have a12 : 2 * (f (d + 1) - f d) * ((suf p m (d + 1 + 1) + p (d + 1) + r - 1) / r) ≤ 28800 := by rw [hx]; exact a10
        have a13 : 0 ≤ (suf p m (d + 1 + 1) + p (d + 1) + r - 1) / r := a7
        have a14 : (suf p m (d + 1 + 1) + p (d + 1) + r - 1) / r ≤ 270 := a8
        have HX := Lib.hid hx
        clear hq hx
        have HE := Lib.hid (left_step (f := f) (r := r) ae)
        obtain ⟨b, off, rfl, _, hc⟩ := hs (by omega)
        obtain ⟨b', off', rfl, _, hc'⟩ := hp (by omega)
        have c0 := hc (d + 1) (by omega)
        have c1 := hc d (by omega)
        have c2 := hc' (d + 1) (by omega)
        clear hc hs hc' hp ae
        have k1 : (d : Int) + 1 < m := by omega
        have k2 : (0 : Int) ≤ (d : Int) := by omega
        go_wp2
        go_quiet ((go_at_call 34; exact quiet_add_left (roundedUp_any _ _ (by omega) (by omega) (by omega) (by omega) _)))
        go_wp2
        go_roundw
        case rel => exact ⟨d, by omega, by go_num, congrArg (Value.int .i64) HA.out, congrArg (Value.int .i64) (by first | exact HE.out | (rw [HX.out]; exact HE.out)), by first | exact ⟨_, rfl⟩ | exact ⟨_, World.drewN_drewN _ _ _⟩⟩
        case measure => simp [intOf]
set_option maxHeartbeats 1600000 in
theorem spec_LeastWays {w : World} {B B' : Nat} {A A' : Option Addr} {n c m c' : Nat} {f p : Nat → Int} (r : Int) (hn : n ≤ 9223372036854775806) (hm : m ≤ 9223372036854775806) (hs : Ints w B A n f) (hp : Ints w B' A' m p) :
    Calls Try.prog 21 #[.slice A n c, .slice A' m c', .int .i64 r] w fun e w' => e = .returned (.int .i64 (leastOf f n p m r)) ∧ Drew w w' := by
  cases hv : peopleB f n p m r
  · have HN := Lib.hid (leastOf_no hv)
    go_enter Try.func21, Try.ntmps21
    go_wp2_with (go_at_call 15; refine (spec_PeopleOk r hn hm hs hp).mono ?_; rintro e w' ⟨rfl, j, rfl⟩)
    go_ret
    exact ⟨ret_int HN.out.symm, _, rfl⟩
  · have HN := Lib.hid (leastOf_yes hv)
    obtain ⟨hfl, rfl, hpb, hr1, hr8⟩ := peopleB_iff.1 hv
    have HF := Lib.hid hfl
    have HP := Lib.hid hpb
    have HB := Lib.hid (left_bound (r := r) hfl hpb hr1)
    have hn8 : m ≤ 8 := (floorsB_iff.1 hfl).2.1
    have hn1 : 1 ≤ m := (floorsB_iff.1 hfl).1
    have hr0 : (r == 0) = false := by simp; omega
    clear hfl hpb
    go_enter Try.func21, Try.ntmps21
    go_wp2_with (go_at_call 15; refine (spec_PeopleOk r hn hm hs hp).mono ?_; rintro e w' ⟨rfl, j, rfl⟩)
    clear hv
    go_loopw [7, 8, 9] (fun s7 s8 s9 wr => ∃ d : Nat, d + 1 ≤ m ∧ s9 = .int .i64 d ∧ s8 = .int .i64 (suf p m (d + 1)) ∧ s7 = .int .i64 (leftTo f p r m d) ∧ Drew w wr) (fun _ _ s9 _ => (intOf s9).toNat)
    case atStart => exact ⟨m - 1, by omega, congrArg (Value.int .i64) (by omega), congrArg (Value.int .i64) (by rw [show m - 1 + 1 = m by omega, suf_top]), congrArg (Value.int .i64) (by simp [leftTo]), _, rfl⟩
    case round =>
      obtain ⟨d, hd, rfl, rfl, rfl, i, rfl⟩ := hrel
      cases d with
      | zero =>
        have HE : Hid (leftTo f p r m 0 = leastTo f p r m (m - 1)) := by simp [Hid, leftTo, leastTo]
        go_wp2
        go_ret
        exact ⟨ret_int (HE.out.trans HN.out.symm), _, rfl⟩
      | succ d =>
        obtain ⟨q1, q2⟩ := HB.out (d + 1) hd
        obtain ⟨⟨a1, a2⟩, ⟨a3, a4⟩, ae, ⟨a5, a6⟩, ⟨a7, a8⟩, a9, a10⟩ := least_facts (r := r) (d := d) HF.out HP.out hr1 hr8 (by omega)
        have HA := Lib.hid ae
        have hq : roundUp (suf p m (d + 1 + 1) + p (d + 1)) r = (suf p m (d + 1 + 1) + p (d + 1) + r - 1) / r := rfl
        have hx : 2 * (f (d + 1) - f d) * ((suf p m (d + 1 + 1) + p (d + 1) + r - 1) / r) = 2 * roundUp (suf p m (d + 1 + 1) + p (d + 1)) r * (f (d + 1) - f d) := by
          rw [← hq, Int.mul_assoc, Int.mul_assoc, Int.mul_comm (f (d + 1) - f d)]
        have a11 : 0 ≤ 2 * (f (d + 1) - f d) * ((suf p m (d + 1 + 1) + p (d + 1) + r - 1) / r) := by rw [hx]; exact a9
        have a12 : 2 * (f (d + 1) - f d) * ((suf p m (d + 1 + 1) + p (d + 1) + r - 1) / r) ≤ 28800 := by rw [hx]; exact a10
        have a13 : 0 ≤ (suf p m (d + 1 + 1) + p (d + 1) + r - 1) / r := a7
        have a14 : (suf p m (d + 1 + 1) + p (d + 1) + r - 1) / r ≤ 270 := a8
        have HX := Lib.hid hx
        clear hq hx
        have HE := Lib.hid (left_step (f := f) (r := r) ae)
        obtain ⟨b, off, rfl, _, hc⟩ := hs (by omega)
        obtain ⟨b', off', rfl, _, hc'⟩ := hp (by omega)
        have c0 := hc (d + 1) (by omega)
        have c1 := hc d (by omega)
        have c2 := hc' (d + 1) (by omega)
        clear hc hs hc' hp ae
        have k1 : (d : Int) + 1 < m := by omega
        have k2 : (0 : Int) ≤ (d : Int) := by omega
        go_wp2
        go_quiet ((fail))
        go_wp2
        go_roundw
        case rel => exact ⟨d, by omega, by go_num, congrArg (Value.int .i64) HA.out, congrArg (Value.int .i64) (by first | exact HE.out | (rw [HX.out]; exact HE.out)), by first | exact ⟨_, rfl⟩ | exact ⟨_, World.drewN_drewN _ _ _⟩⟩
        case measure => simp [intOf]
end Go.Proofs.Ythbphjfaeklfdaa
