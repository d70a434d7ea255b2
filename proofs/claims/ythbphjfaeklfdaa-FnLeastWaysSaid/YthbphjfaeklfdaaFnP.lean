/-
  The laws FnTripsFor, FnPeopleOk, FnSharedWays, FnLeastWays: the walks. No claim stands here.
-/
import Derived.Test.YthbphjfaeklfdaaDrawP
import Derived.Test.YthbphjfaeklfdaaAlive
import Derived.Test.YthbphjfaeklfdaaShared
import Derived.Test.YthbphjfaeklfdaaLeast
namespace Go.Proofs.Ythbphjfaeklfdaa
open Go.RowKit
set_option linter.unusedVariables false
set_option linter.unusedSimpArgs false

theorem trips_is {p r : Int} : tripsFor p r = -1 ∨ (0 ≤ p ∧ p ≤ 30 ∧ 1 ≤ r ∧ r ≤ 8 ∧ 0 ≤ tripsFor p r ∧ tripsFor p r ≤ 30 ∧ p ≤ tripsFor p r * r ∧ ((tripsFor p r = 0 ∧ p = 0) ∨ (tripsFor p r - 1) * r < p)) := by
  cases h1 : inB p 0 30
  · exact .inl (tripsFor_no (.inl h1))
  · cases h2 : inB r 1 8
    · exact .inl (tripsFor_no (.inr h2))
    · obtain ⟨a, b⟩ := inB_iff.1 h1
      obtain ⟨c, d⟩ := inB_iff.1 h2
      right
      rw [tripsFor_yes h1 h2]
      refine ⟨a, b, c, d, roundUp_nonneg c a, Int.le_trans (roundUp_le c a) b, roundUp_self c, ?_⟩
      by_cases h0 : p = 0
      · left
        refine ⟨?_, h0⟩
        have := roundUp_le (p := p) c a
        have := roundUp_nonneg (p := p) c a
        omega
      · right
        have h := roundUp_key (p := p) (k := roundUp p r - 1) c
        by_cases hx : p ≤ (roundUp p r - 1) * r
        · have := h.2 hx; omega
        · omega

theorem law_TripsFor {w : World} {A : Option Addr} {n c : Nat} {h : Nat → Int} (hc : n ≤ c) (hs : Bytes w w.heap.size A n h) :
    Calls Try.prog 5 #[.slice A n c] w fun e w' => e = .returned (.bool true) ∧ Below w.heap.size w w' := by
  by_cases h20 : n ≤ 1048576
  · go_enter Try.func5, Try.ntmps5
    go_wp2_with fail
    refine (DrawTripsFor_any (Nat.le_refl _) hc hs).mono ?_
    rintro e w1 ⟨p, r, rfl, hb1⟩
    have HB1 := Lib.hid hb1
    have hsz1 := hb1.size
    clear hb1
    go_wp2_with fail
    refine (impl_TripsFor p r _).mono ?_
    rintro e w2 ⟨rfl, rfl⟩
    go_wp2_with fail
    refine (spec_TripsFor p r _).mono ?_
    rintro e w2 ⟨rfl, rfl⟩
    have hT := @trips_is p r
    generalize tripsFor p r = T at *
    rcases hT with rfl | ⟨a, b, c1, d, e0, e1, e2, e3⟩
    · go_wp2_with fail
      refine alive_any.mono ?_
      rintro e w3 ⟨rfl, hb3⟩
      have HB3 := Lib.hid (HB1.out.trans (hb3.mono hsz1))
      clear hb3
      go_wp2
      go_ret
      exact ⟨rfl, HB3.out⟩
    · have m0 : 0 ≤ T * r := Int.mul_nonneg e0 (by omega)
      have m1 : T * r ≤ 240 := Int.le_trans (Int.mul_le_mul e1 d (by omega) (by omega)) (by decide)
      have m2 : IntKind.i64.wrap (T * r) = T * r := IntWalk.i64_in _ (by omega)
      have m3 : -8 ≤ (T - 1) * r ∧ (T - 1) * r ≤ 240 := by
        rw [Int.sub_mul]; omega
      have m4 : IntKind.i64.wrap ((T - 1) * r) = (T - 1) * r := IntWalk.i64_in _ (by omega)
      have H4 := Lib.hid m4
      obtain ⟨m5, m6⟩ := m3
      rcases e3 with ⟨rfl, rfl⟩ | e3
      · clear m4 H4
        go_wp2
        go_ret
        exact ⟨rfl, HB1.out⟩
      · by_cases g0 : (T == 0 && p == 0) = true
        · simp at g0
          obtain ⟨rfl, rfl⟩ := g0
          go_wp2
          go_ret
          exact ⟨rfl, HB1.out⟩
        · have g1 : (T == 0) = false ∨ ((T == 0) = true ∧ (p == 0) = false) := by
            cases x : (T == 0) <;> cases y : (p == 0) <;> simp_all
          clear g0
          rcases g1 with g1 | ⟨g1, g2⟩
          all_goals
            go_wp2
            go_ret
            exact ⟨rfl, HB1.out⟩
  · go_enter Try.func5, Try.ntmps5
    go_wp2
    go_ret
    exact ⟨rfl, Below.refl _ _⟩

theorem people_empty {f : Nat → Int} {n : Nat} {p : Nat → Int} {m : Nat} {r : Int} (h : peopleB f n p m r = true) : peopleB f n (fun _ => 0) m r = true := by
  rw [peopleB_iff] at h ⊢
  obtain ⟨h1, h2, h3, h4⟩ := h
  exact ⟨h1, h2, fun i hi => ⟨Int.le_refl _, by decide⟩, h4⟩
theorem people_noroom (f : Nat → Int) (n : Nat) (p : Nat → Int) (m : Nat) : peopleB f n p m 0 = false := by
  simp [peopleB, inB]

set_option maxHeartbeats 1600000 in
theorem law_PeopleOk {w : World} {A : Option Addr} {n c : Nat} {h : Nat → Int} (hc : n ≤ c) (hs : Bytes w w.heap.size A n h) :
    Calls Try.prog 9 #[.slice A n c] w fun e w' => e = .returned (.bool true) ∧ Below w.heap.size w w' := by
  by_cases h20 : n ≤ 1048576
  · go_enter Try.func9, Try.ntmps9
    go_wp2_with fail
    refine (DrawPeopleOk_any (Nat.le_refl _) hc hs).mono ?_
    rintro e w1 ⟨A1, n1, c1, f, A2, n2, c2, p, r, rfl, hn1, hn2, hr1, hp1, hb1⟩
    have HB1 := Lib.hid hb1
    have HF1 := Lib.hid hr1
    have HP1 := Lib.hid hp1
    have hsz1 := hb1.size
    clear hb1 hr1 hp1
    go_wp2_with fail
    refine (impl_PeopleOk r (by omega) (by omega) HF1.out.ints HP1.out.ints).mono ?_
    rintro e w2 ⟨rfl, j2, rfl⟩
    have HB2 := Lib.hid (below_drewN HB1.out j2)
    have HF2 := Lib.hid (HF1.out.drewN j2)
    have HP2 := Lib.hid (HP1.out.drewN j2)
    clear HB1 HF1 HP1
    generalize w1.drewN j2 = w2 at *
    go_wp2_with fail
    refine (spec_PeopleOk r (by omega) (by omega) HF2.out.ints HP2.out.ints).mono ?_
    rintro e w3 ⟨rfl, j3, rfl⟩
    have HB3 := Lib.hid (below_drewN HB2.out j3)
    have HF3 := Lib.hid (HF2.out.drewN j3)
    have HP3 := Lib.hid (HP2.out.drewN j3)
    have hsz3 := HB3.out.size
    have HNR := Lib.hid (people_noroom f n1 p n2)
    clear HB2 HF2 HP2
    generalize w2.drewN j3 = w3 at *
    cases hv : peopleB f n1 p n2 r
    · go_wp2_with fail
      refine (impl_PeopleOk 0 (by omega) (by omega) HF3.out.ints HP3.out.ints).mono ?_
      rintro e w4 ⟨rfl, j4, rfl⟩
      rw [HNR.out]
      have HB4 := Lib.hid (below_drewN HB3.out j4)
      have hsz4 := HB4.out.size
      clear HB3 HF3 HP3
      generalize w3.drewN j4 = w4 at *
      go_wp2_with fail
      refine alive_any.mono ?_
      rintro e w5 ⟨rfl, hb5⟩
      have HB5 := Lib.hid (HB4.out.trans (hb5.mono hsz4))
      clear hb5
      go_wp2
      go_ret
      exact ⟨rfl, HB5.out⟩
    · have HE := Lib.hid (people_empty hv)
      clear hv
      go_wp2_with (at_make; refine want_make_ints _ (by rfl) _ _ rfl w.heap.size n2 _ rfl rfl (by rfl) (by omega) hsz3 ?_; intro w4 hr4 hg4)
      have HB4 := Lib.hid (HB3.out.grown hg4 hsz3 (by intro b e; cases e))
      have HF4 := Lib.hid (HF3.out.kept hg4 (.inl rfl))
      have HP4 := Lib.hid (HP3.out.kept hg4 (.inl rfl))
      have HM4 := Lib.hid hr4
      clear hr4 hg4 HB3 HF3 HP3
      go_wp2_with fail
      refine (impl_PeopleOk (p := fun _ => 0) r (by omega) (by omega) HF4.out.ints HM4.out.ints).mono ?_
      rintro e w5 ⟨rfl, j5, rfl⟩
      rw [HE.out]
      have HB5 := Lib.hid (below_drewN HB4.out j5)
      have HF5 := Lib.hid (HF4.out.drewN j5)
      have HP5 := Lib.hid (HP4.out.drewN j5)
      clear HB4 HF4 HP4 HM4
      generalize w4.drewN j5 = w5 at *
      go_wp2_with fail
      refine (impl_PeopleOk 0 (by omega) (by omega) HF5.out.ints HP5.out.ints).mono ?_
      rintro e w6 ⟨rfl, j6, rfl⟩
      rw [HNR.out]
      have HB6 := Lib.hid (below_drewN HB5.out j6)
      have hsz6 := HB6.out.size
      clear HB5 HF5 HP5
      generalize w5.drewN j6 = w6 at *
      go_wp2_with fail
      refine alive_any.mono ?_
      rintro e w7 ⟨rfl, hb7⟩
      have HB7 := Lib.hid (HB6.out.trans (hb7.mono hsz6))
      clear hb7
      go_wp2
      go_ret
      exact ⟨rfl, HB7.out⟩
  · go_enter Try.func9, Try.ntmps9
    go_wp2
    go_ret
    exact ⟨rfl, Below.refl _ _⟩

theorem leastOf_sign {f : Nat → Int} {n : Nat} {p : Nat → Int} {m : Nat} {r : Int} (h : peopleB f n p m r = true) : 0 ≤ leastOf f n p m r ∧ leastOf f n p m r ≤ 1000000 := by
  rw [leastOf_yes h]
  obtain ⟨hf, rfl, hp, r1, r2⟩ := peopleB_iff.1 h
  obtain ⟨n1, n8, _⟩ := floorsB_iff.1 hf
  have := leastTo_bound (floors_lt hf) (floors_bound hf) (suf_bound hp n8) r1 (m - 1) (by omega)
  omega

set_option maxHeartbeats 1600000 in
theorem law_SharedWays {w : World} {A : Option Addr} {n c : Nat} {h : Nat → Int} (hc : n ≤ c) (hs : Bytes w w.heap.size A n h) :
    Calls Try.prog 12 #[.slice A n c] w fun e w' => e = .returned (.bool true) ∧ Below w.heap.size w w' := by
  by_cases h20 : n ≤ 1048576
  · go_enter Try.func12, Try.ntmps12
    go_wp2_with fail
    refine (DrawSharedWays_any (Nat.le_refl _) hc hs).mono ?_
    rintro e w1 ⟨A1, n1, c1, f, A2, n2, c2, p, r, rfl, hn1, hn2, hr1, hp1, hb1⟩
    have HB1 := Lib.hid hb1
    have HF1 := Lib.hid hr1
    have HP1 := Lib.hid hp1
    have hsz1 := hb1.size
    clear hb1 hr1 hp1
    go_wp2_with fail
    refine (impl_SharedWays r (by omega) (by omega) (Nat.le_refl _) (Nat.le_refl _) HF1.out.ints HP1.out.ints).mono ?_
    rintro e w2 ⟨rfl, hb2⟩
    have HB2 := Lib.hid (HB1.out.trans (hb2.mono hsz1))
    have HF2 := Lib.hid (HF1.out.below hb2 (Nat.le_refl _))
    have HP2 := Lib.hid (HP1.out.below hb2 (Nat.le_refl _))
    have hsz2 := HB2.out.size
    clear HB1 HF1 HP1 hb2
    go_wp2_with fail
    refine (spec_SharedWays r (by omega) (by omega) (Nat.le_refl _) (Nat.le_refl _) HF2.out.ints HP2.out.ints).mono ?_
    rintro e w3 ⟨rfl, hb3⟩
    have HB3 := Lib.hid (HB2.out.trans (hb3.mono hsz2))
    have HF3 := Lib.hid (HF2.out.below hb3 (Nat.le_refl _))
    have HP3 := Lib.hid (HP2.out.below hb3 (Nat.le_refl _))
    have hsz3 := HB3.out.size
    clear HB2 HF2 HP2 hb3
    cases hv : peopleB f n1 p n2 r
    · rw [leastOf_no hv]
      clear hv
      go_wp2_with fail
      refine alive_any.mono ?_
      rintro e w4 ⟨rfl, hb4⟩
      have HB4 := Lib.hid (HB3.out.trans (hb4.mono hsz3))
      clear hb4
      go_wp2
      go_ret
      exact ⟨rfl, HB4.out⟩
    · obtain ⟨s1, s2⟩ := leastOf_sign hv
      have hle := least_le_clear hv
      clear hv
      go_wp2_with fail
      refine (impl_LeastWays r (by omega) (by omega) HF3.out.ints HP3.out.ints).mono ?_
      rintro e w4 ⟨rfl, j4, rfl⟩
      have HB4 := Lib.hid (below_drewN HB3.out j4)
      have HF4 := Lib.hid (HF3.out.drewN j4)
      have HP4 := Lib.hid (HP3.out.drewN j4)
      clear HB3 HF3 HP3
      generalize w3.drewN j4 = w4 at *
      go_wp2_with fail
      refine (impl_ClearWays r (by omega) (by omega) HF4.out.ints HP4.out.ints).mono ?_
      rintro e w5 ⟨rfl, j5, rfl⟩
      generalize leastOf f n1 p n2 r = L at *
      generalize clearOf f n1 p n2 r = C at *
      go_wp2
      go_ret
      exact ⟨rfl, below_drewN HB4.out _⟩
  · go_enter Try.func12, Try.ntmps12
    go_wp2
    go_ret
    exact ⟨rfl, Below.refl _ _⟩

theorem leastTo_room {f p : Nat → Int} {r : Int} {n : Nat} (hf : ∀ i j, i < j → j < n → f i < f j) (hs : ∀ k, k ≤ n → 0 ≤ suf p n k ∧ suf p n k ≤ 240) (hr : 1 ≤ r) :
    ∀ d, d + 1 ≤ n → leastTo f p (r + 1) n d ≤ leastTo f p r n d := by
  intro d
  induction d with
  | zero => intro _; exact Int.le_refl _
  | succ d ih =>
    intro hd
    simp only [leastTo]
    have h1 := roundUp_room (p := suf p n (d + 1)) hr (hs (d + 1) (by omega)).1
    have h2 := hf d (d + 1) (by omega) (by omega)
    have h3 := Int.mul_le_mul_of_nonneg_right (show 2 * roundUp (suf p n (d + 1)) (r + 1) ≤ 2 * roundUp (suf p n (d + 1)) r by omega) (show 0 ≤ f (d + 1) - f d by omega)
    have := ih (by omega)
    omega
theorem leastOf_room {f : Nat → Int} {n : Nat} {p : Nat → Int} {m : Nat} {r : Int} (h : peopleB f n p m r = true) (h8 : r ≠ 8) : leastOf f n p m (r + 1) ≤ leastOf f n p m r := by
  have h' : peopleB f n p m (r + 1) = true := by
    rw [peopleB_iff] at h ⊢
    obtain ⟨a, b, c, d, e⟩ := h
    exact ⟨a, b, c, by omega, by omega⟩
  rw [leastOf_yes h, leastOf_yes h']
  obtain ⟨hf, rfl, hp, r1, r2⟩ := peopleB_iff.1 h
  obtain ⟨n1, n8, _⟩ := floorsB_iff.1 hf
  exact leastTo_room (floors_lt hf) (suf_bound hp n8) r1 (m - 1) (by omega)
theorem leastOf_zero {f : Nat → Int} {n : Nat} {p : Nat → Int} {m : Nat} {r : Int} (h : peopleB f n p m r = true) : leastOf f n (fun _ => 0) m r = 0 := by
  rw [leastOf_yes (people_empty h)]
  obtain ⟨hf, rfl, hp, r1, r2⟩ := peopleB_iff.1 h
  obtain ⟨n1, n8, _⟩ := floorsB_iff.1 hf
  exact least_none r1 (fun k _ _ => by simp [suf, sumTo_zero]) (m - 1) (by omega)
theorem leastOf_none {f : Nat → Int} {n : Nat} {p : Nat → Int} {m : Nat} {r : Int} (h : peopleB f n p m r = true) :
    (leastOf f n p m r = 0 ∧ sumTo p m = p 0) ∨ (0 < leastOf f n p m r ∧ sumTo p m ≠ p 0) := by
  rw [leastOf_yes h]
  obtain ⟨hf, rfl, hp, r1, r2⟩ := peopleB_iff.1 h
  obtain ⟨n1, n8, _⟩ := floorsB_iff.1 hf
  have hsb := suf_bound hp n8
  have e1 : suf p m 1 = sumTo p m - p 0 := by simp [suf, sumTo]
  by_cases h0 : suf p m 1 = 0
  · left
    refine ⟨least_none r1 (fun k h1 h2 => ?_) (m - 1) (by omega), by omega⟩
    have := hsb k h2
    have h3 := sumTo_mono (fun i hi => (hp i hi).1) 1 k h1 h2
    simp only [suf] at *
    omega
  · right
    refine ⟨?_, by omega⟩
    have h1 := (hsb 1 n1).1
    have hm2 : 2 ≤ m := by
      rcases Nat.lt_or_ge m 2 with h2 | h2
      · obtain rfl : m = 1 := by omega
        exact absurd (suf_top p 1) h0
      · exact h2
    have h2 := leastTo_mono (floors_lt hf) (floors_bound hf) hsb r1 1 (m - 1) (by omega) (by omega)
    have h3 : 0 < roundUp (suf p m (0 + 1)) r := (roundUp_pos r1).2 (by simp only [Nat.zero_add]; omega)
    have h4 := floors_lt hf 0 1 (by omega) (by omega)
    have h5 : 0 < 2 * roundUp (suf p m (0 + 1)) r * (f (0 + 1) - f 0) := Int.mul_pos (by omega) (by simp only [Nat.zero_add]; omega)
    simp only [leastTo] at h2
    omega
end Go.Proofs.Ythbphjfaeklfdaa
