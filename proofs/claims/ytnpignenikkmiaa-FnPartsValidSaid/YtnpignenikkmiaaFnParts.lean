/-
  The law FnPartsValid: the walk. No claim stands here.
-/
import Derived.Test.YtnpignenikkmiaaDrawS
import Derived.Test.YtnpignenikkmiaaSeg
import Derived.Test.YtnpignenikkmiaaAlive
namespace Go.Proofs.Ytnpignenikkmiaa
open Go.RowKit
set_option linter.unusedVariables false
set_option linter.unusedSimpArgs false

theorem parts_tail {f : Nat → Int} {n : Nat} (h : partsB f n = true) : partsB (fun i => f (i + 1)) (n - 1) = true := by
  rw [partsB_iff] at h ⊢
  exact ⟨by omega, fun i hi => h.2 (i + 1) (by omega)⟩
theorem parts_zero (f : Nat → Int) (n : Nat) : partsB (snoc (catF f 0 f) n 0) (n + 1) = false := by
  rw [Bool.eq_false_iff]; intro h
  have := ((partsB_iff.1 h).2 n (by omega)).1
  rw [snoc_at] at this
  omega

set_option maxHeartbeats 1600000 in
theorem law_PartsValid {w : World} {A : Option Addr} {n c : Nat} {h : Nat → Int} (hc : n ≤ c) (hs : Bytes w w.heap.size A n h) :
    Calls Try.prog 7 #[.slice A n c] w fun e w' => e = .returned (.bool true) ∧ Below w.heap.size w w' := by
  by_cases h20 : n ≤ 1048576
  · go_enter Try.func7, Try.ntmps7
    go_wp2_with fail
    refine (DrawPartsValid_any (Nat.le_refl _) hc hs).mono ?_
    rintro e w1 ⟨A1, n1, c1, f, rfl, hn1, hr1, hb1⟩
    have HB1 := Lib.hid hb1
    have HR1 := Lib.hid hr1
    have hsz1 := hb1.size
    clear hb1 hr1
    go_wp2_with fail
    refine (impl_PartsValid (by omega) HR1.out.ints).mono ?_
    rintro e w2 ⟨rfl, rfl⟩
    go_wp2_with fail
    refine (spec_PartsValid (by omega) HR1.out.ints).mono ?_
    rintro e w2 ⟨rfl, j2, rfl⟩
    have HB2 := Lib.hid (below_drewN HB1.out j2)
    have HR2 := Lib.hid (HR1.out.drewN j2)
    clear HB1 HR1
    generalize w1.drewN j2 = w2 at *
    have hsz2 := HB2.out.size
    have HZ := Lib.hid (parts_zero f n1)
    have hnc := HR2.out.none_cap
    cases hv : partsB f n1
    · go_wp2_with (first
        | (at_builtin; refine want_append_ints _ (by rfl) _ _ rfl rfl (Row.empty (w := w2) (base := w.heap.size) f hsz2) rfl (HR2.out.alloc _).ints hnc (by omega) (by simp; omega) ?_; intro A3 c3 w3 hr3 hg3; rw [Nat.zero_add] at hr3)
        | (at_builtin; refine want_append_int _ (by rfl) _ _ rfl rfl (hr3.alloc _) w3.heap.size 0 rfl (by simp) (by omega) (by have := hg3.size; simp at this ⊢; omega) ?_; intro A4 c4 w4 hr4 hg4))
      have HB3 := Lib.hid ((HB2.out.alloc hsz2 _).grown hg3 (by simp; omega) (fun b e => by simp [Value.ownBlock] at e; omega))
      have hsz3 := HB3.out.size
      have HB4 := Lib.hid ((HB3.out.alloc hsz3 _).grown hg4 (by simp; omega) hr3.own)
      refine (impl_PartsValid (by omega) hr4.ints).mono ?_
      rintro e w5 ⟨rfl, rfl⟩
      rw [HZ.out]
      go_wp2_with fail
      refine (impl_PartsValid (n := 0) (f := f) (B := 0) (by omega) Ints.zero).mono ?_
      rintro e w5 ⟨rfl, rfl⟩
      rw [show partsB f 0 = true from rfl]
      go_wp2_with fail
      refine alive_any.mono ?_
      rintro e w5 ⟨rfl, hb5⟩
      have HB5 := Lib.hid (HB4.out.trans (hb5.mono HB4.out.size))
      clear hb5
      go_wp2
      go_ret
      exact ⟨rfl, HB5.out⟩
    · by_cases hz : n1 = 0
      · have hz2 : ((n1 : Int) == 0) = true := by simp; omega
        clear hz
        go_wp2_with (first
          | (at_builtin; refine want_append_ints _ (by rfl) _ _ rfl rfl (Row.empty (w := w2) (base := w.heap.size) f hsz2) rfl (HR2.out.alloc _).ints hnc (by omega) (by simp; omega) ?_; intro A3 c3 w3 hr3 hg3; rw [Nat.zero_add] at hr3)
          | (at_builtin; refine want_append_int _ (by rfl) _ _ rfl rfl (hr3.alloc _) w3.heap.size 0 rfl (by simp) (by omega) (by have := hg3.size; simp at this ⊢; omega) ?_; intro A4 c4 w4 hr4 hg4))
        have HB3 := Lib.hid ((HB2.out.alloc hsz2 _).grown hg3 (by simp; omega) (fun b e => by simp [Value.ownBlock] at e; omega))
        have hsz3 := HB3.out.size
        have HB4 := Lib.hid ((HB3.out.alloc hsz3 _).grown hg4 (by simp; omega) hr3.own)
        refine (impl_PartsValid (by omega) hr4.ints).mono ?_
        rintro e w5 ⟨rfl, rfl⟩
        rw [HZ.out]
        go_wp2_with fail
        refine (impl_PartsValid (n := 0) (f := f) (B := 0) (by omega) Ints.zero).mono ?_
        rintro e w5 ⟨rfl, rfl⟩
        rw [show partsB f 0 = true from rfl]
        go_wp2_with fail
        refine alive_any.mono ?_
        rintro e w5 ⟨rfl, hb5⟩
        have HB5 := Lib.hid (HB4.out.trans (hb5.mono HB4.out.size))
        clear hb5
        go_wp2
        go_ret
        exact ⟨rfl, HB5.out⟩
      · obtain ⟨m, rfl⟩ : ∃ m, n1 = m + 1 := ⟨n1 - 1, by omega⟩
        have hz2 : (((m + 1 : Nat) : Int) == 0) = false := by simp; omega
        clear hz
        obtain ⟨b, rfl, hb, hbl⟩ := HR2.out.form (by omega)
        have hT := Lib.hid (HR2.out.ints.tail)
        have HV1 : Hid (partsB (fun i => f (i + 1)) m = true) := Lib.hid (parts_tail hv)
        have q1 : m + 1 ≤ c1 := HR2.out.cap.1
        have q3 : (1 : Int) ≤ (m : Int) + 1 := by omega
        have q4 : (m : Int) + 1 ≤ c1 := by omega
        clear hv
        by_cases hc1 : c1 = 1
        · subst hc1
          obtain rfl : m = 0 := by omega
          clear hT HV1 q1 q3 q4
          go_wp2_with fail
          ((with_reducible refine (impl_PartsValid (n := 0) (f := f) (B := 0) (by omega) Ints.zero).mono ?_); rintro e w2' ⟨rfl, rfl⟩)
          rw [show partsB f 0 = true from rfl]
          go_wp2_with (first
            | (at_builtin; refine want_append_ints _ (by rfl) _ _ rfl rfl (Row.empty (w := w2) (base := w.heap.size) f hsz2) rfl (HR2.out.alloc _).ints hnc (by omega) (by simp; omega) ?_; intro A3 c3 w3 hr3 hg3; rw [Nat.zero_add] at hr3)
            | (at_builtin; refine want_append_int _ (by rfl) _ _ rfl rfl (hr3.alloc _) w3.heap.size 0 rfl (by simp) (by omega) (by have := hg3.size; simp at this ⊢; omega) ?_; intro A4 c4 w4 hr4 hg4))
          have HB3 := Lib.hid ((HB2.out.alloc hsz2 _).grown hg3 (by simp; omega) (fun b e => by simp [Value.ownBlock] at e; omega))
          have hsz3 := HB3.out.size
          have HB4 := Lib.hid ((HB3.out.alloc hsz3 _).grown hg4 (by simp; omega) hr3.own)
          refine (impl_PartsValid (by omega) hr4.ints).mono ?_
          rintro e w5 ⟨rfl, rfl⟩
          rw [HZ.out]
          go_wp2_with fail
          refine (impl_PartsValid (n := 0) (f := f) (B := 0) (by omega) Ints.zero).mono ?_
          rintro e w5 ⟨rfl, rfl⟩
          rw [show partsB f 0 = true from rfl]
          go_wp2_with fail
          refine alive_any.mono ?_
          rintro e w5 ⟨rfl, hb5⟩
          have HB5 := Lib.hid (HB4.out.trans (hb5.mono HB4.out.size))
          clear hb5
          go_wp2
          go_ret
          exact ⟨rfl, HB5.out⟩
        · have hc2 : ¬ (c1 - 1 = 0) := by omega
          go_wp2_with fail
          ((with_reducible refine (impl_PartsValid (n := m) (f := fun i => f (i + 1)) (by omega) hT.out).mono ?_); rintro e w2' ⟨rfl, rfl⟩)
          rw [HV1.out]
          go_wp2_with (first
            | (at_builtin; refine want_append_ints _ (by rfl) _ _ rfl rfl (Row.empty (w := w2) (base := w.heap.size) f hsz2) rfl (HR2.out.alloc _).ints hnc (by omega) (by simp; omega) ?_; intro A3 c3 w3 hr3 hg3; rw [Nat.zero_add] at hr3)
            | (at_builtin; refine want_append_int _ (by rfl) _ _ rfl rfl (hr3.alloc _) w3.heap.size 0 rfl (by simp) (by omega) (by have := hg3.size; simp at this ⊢; omega) ?_; intro A4 c4 w4 hr4 hg4))
          have HB3 := Lib.hid ((HB2.out.alloc hsz2 _).grown hg3 (by simp; omega) (fun b e => by simp [Value.ownBlock] at e; omega))
          have hsz3 := HB3.out.size
          have HB4 := Lib.hid ((HB3.out.alloc hsz3 _).grown hg4 (by simp; omega) hr3.own)
          refine (impl_PartsValid (by omega) hr4.ints).mono ?_
          rintro e w5 ⟨rfl, rfl⟩
          rw [HZ.out]
          go_wp2_with fail
          refine (impl_PartsValid (n := 0) (f := f) (B := 0) (by omega) Ints.zero).mono ?_
          rintro e w5 ⟨rfl, rfl⟩
          rw [show partsB f 0 = true from rfl]
          go_wp2_with fail
          refine alive_any.mono ?_
          rintro e w5 ⟨rfl, hb5⟩
          have HB5 := Lib.hid (HB4.out.trans (hb5.mono HB4.out.size))
          clear hb5
          go_wp2
          go_ret
          exact ⟨rfl, HB5.out⟩
  · go_enter Try.func7, Try.ntmps7
    go_wp2
    go_ret
    exact ⟨rfl, Below.refl _ _⟩
end Go.Proofs.Ytnpignenikkmiaa
