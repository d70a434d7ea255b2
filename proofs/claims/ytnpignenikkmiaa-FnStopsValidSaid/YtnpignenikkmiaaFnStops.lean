/-
  The law FnStopsValid: the walk. No claim stands here.
-/
import Derived.Test.YtnpignenikkmiaaDrawS
import Derived.Test.YtnpignenikkmiaaSeg
import Derived.Test.YtnpignenikkmiaaAlive
namespace Go.Proofs.Ytnpignenikkmiaa
open Go.RowKit
set_option linter.unusedVariables false
set_option linter.unusedSimpArgs false

theorem stops_tail {f : Nat → Int} {m : Nat} (h : stopsB f (m + 1) = true) : stopsB (fun i => f (i + 1)) m = true := by
  rw [stopsB_iff] at h ⊢
  intro i hi
  obtain ⟨a, b, c⟩ := h (i + 1) (by omega)
  refine ⟨a, b, fun h0 => ?_⟩
  have := c (by omega)
  simp only [Nat.add_sub_cancel] at this
  rwa [show i - 1 + 1 = i by omega]
theorem stops_twice (f : Nat → Int) (m : Nat) : stopsB (snoc (catF f 0 f) (m + 1) (f m)) (m + 2) = false := by
  rw [Bool.eq_false_iff]; intro h
  have := (stopsB_iff.1 h (m + 1) (by omega)).2.2 (by omega)
  rw [snoc_at, show m + 1 - 1 = m by omega, snoc_lo (by omega)] at this
  unfold catF at this
  simp at this

set_option maxHeartbeats 3200000 in
theorem law_StopsValid {w : World} {A : Option Addr} {n c : Nat} {h : Nat → Int} (hc : n ≤ c) (hs : Bytes w w.heap.size A n h) :
    Calls Try.prog 6 #[.slice A n c] w fun e w' => e = .returned (.bool true) ∧ Below w.heap.size w w' := by
  by_cases h20 : n ≤ 1048576
  · go_enter Try.func6, Try.ntmps6
    go_wp2_with fail
    refine (DrawStopsValid_any (Nat.le_refl _) hc hs).mono ?_
    rintro e w1 ⟨A1, n1, c1, f, rfl, hn1, hr1, hb1⟩
    have HB1 := Lib.hid hb1
    have HR1 := Lib.hid hr1
    have hsz1 := hb1.size
    clear hb1 hr1
    go_wp2_with fail
    refine (impl_StopsValid (by omega) HR1.out.ints).mono ?_
    rintro e w2 ⟨rfl, rfl⟩
    go_wp2_with fail
    refine (spec_StopsValid (by omega) HR1.out.ints).mono ?_
    rintro e w2 ⟨rfl, j2, rfl⟩
    have HB2 := Lib.hid (below_drewN HB1.out j2)
    have HR2 := Lib.hid (HR1.out.drewN j2)
    clear HB1 HR1
    generalize w1.drewN j2 = w2 at *
    cases hv : stopsB f n1
    · go_wp2_with fail
      refine (impl_StopsValid (n := 0) (f := f) (B := 0) (by omega) Ints.zero).mono ?_
      rintro e w3 ⟨rfl, rfl⟩
      rw [show stopsB f 0 = true from rfl]
      go_wp2_with fail
      refine alive_any.mono ?_
      rintro e w3 ⟨rfl, hb3⟩
      have HB3 := Lib.hid (HB2.out.trans (hb3.mono HB2.out.size))
      clear hb3
      go_wp2
      go_ret
      exact ⟨rfl, HB3.out⟩
    · by_cases hz : n1 = 0
      · have hz2 : ((n1 : Int) == 0) = true := by simp <;> omega
        clear hz
        go_wp2_with fail
        refine (impl_StopsValid (n := 0) (f := f) (B := 0) (by omega) Ints.zero).mono ?_
        rintro e w3 ⟨rfl, rfl⟩
        rw [show stopsB f 0 = true from rfl]
        go_wp2_with fail
        refine alive_any.mono ?_
        rintro e w3 ⟨rfl, hb3⟩
        have HB3 := Lib.hid (HB2.out.trans (hb3.mono HB2.out.size))
        clear hb3
        go_wp2
        go_ret
        exact ⟨rfl, HB3.out⟩
      · obtain ⟨m, rfl⟩ : ∃ m, n1 = m + 1 := ⟨n1 - 1, by omega⟩
        clear hz
        have hz2 : (((m + 1 : Nat) : Int) == 0) = false := by simp <;> omega
        obtain ⟨b, rfl, hb, hbl⟩ := HR2.out.form (by omega)
        have c0 := HR2.out.cell (k := m) (by omega)
        have hT := Lib.hid (HR2.out.ints.tail)
        have HV1 : Hid (stopsB (fun i => f (i + 1)) m = true) := Lib.hid (stops_tail hv)
        have HV2 : Hid (stopsB (snoc (catF f 0 f) (m + 1) (f m)) (m + 2) = false) := Lib.hid (stops_twice f m)
        have hcap := HR2.out.cap
        clear hv
        have hsz2 := HB2.out.size
        have KEEP : ∀ (W w3 : World) (row : Option Nat), W.cell? ⟨b, m, none⟩ = some (.int .i64 (f m)) → W.grownBy w3 row → (∀ k, row = some k → w2.heap.size ≤ k) → w3.cell? ⟨b, m, none⟩ = some (.int .i64 (f m)) := by
          intro W w3 row hW hg hrow
          exact hg.cell hW (fun e => by have := hrow b e.symm; omega)
        have HKP := Lib.hid KEEP
        clear KEEP
        have q1 : m + 1 ≤ c1 := hcap.1
        by_cases hc1 : c1 = 1
        · subst hc1
          obtain rfl : m = 0 := by omega
          have HV3 : Hid (stopsB (snoc (catF f 0 f) 1 (f 0)) 2 = false) := HV2
          clear hT HV1 HV2 q1 hcap
          have z1 : IntKind.i64.wrap 0 = 0 := by decide
          have z2 : IntKind.i64.wrap (1 - 1) = 0 := by decide
          go_wp2_with fail
          go_region_held3 (fun w' => w'.cell? ⟨b, 0, none⟩ = some (.int .i64 (f 0))) (first | go_keep | exact HKP.out _ _ _ (by assumption) hg4 hr3.own | exact HKP.out _ _ _ (by assumption) hg4 hr3'.own | exact HKP.out _ _ _ (by assumption) hg3 (fun k e => by simp [Value.ownBlock] at e <;> omega)) (first
            | (go_at_call 15; ((with_reducible refine (impl_StopsValid (n := 0) (f := f) (B := 0) (by omega) Ints.zero).mono ?_); rintro e w3 ⟨rfl, rfl⟩; rw [show stopsB f 0 = true from rfl]))
            | (go_at_call 15; ((with_reducible refine (impl_StopsValid (n := 2) (f := snoc (catF f 0 f) 1 (f 0)) (by omega) hr4.ints).mono ?_); rintro e w5 ⟨rfl, rfl⟩; rw [HV3.out]))
            | (refine want_step_append_ints _ (by rfl) _ _ rfl rfl (Row.empty (w := w2.drew) (base := w2.heap.size) f (Nat.le_refl _)) rfl (HR2.out.drew.alloc _).ints (by intro h; cases h) (by omega) (by simp) ?_; intro A3 c3 w3 hr3 hg3; have hr3' := hr3; simp only [Nat.zero_add] at hr3)
            | (refine want_step_append_ints _ (by rfl) _ _ rfl rfl ((Row.empty (w := w2.drew) (base := w2.heap.size) f (Nat.le_refl _)).alloc _) rfl ((HR2.out.drew.alloc _).alloc _).ints (by intro h; cases h) (by omega) (by simp <;> omega) ?_; intro A3 c3 w3 hr3 hg3; have hr3' := hr3; simp only [Nat.zero_add] at hr3)
            | (refine want_step_append_ints _ (by rfl) _ _ rfl rfl (Row.emptyAt (w := w2.drew.alloc _) (g := w2.heap.size + 1) (base := w2.heap.size) f (by simp) (by simp)) rfl ((HR2.out.drew.alloc _).alloc _).ints (by intro h; cases h) (by omega) (by simp <;> omega) ?_; intro A3 c3 w3 hr3 hg3; have hr3' := hr3; simp only [Nat.zero_add] at hr3)
            | (refine want_step_append_int _ (by rfl) _ _ rfl rfl (hr3.alloc _) w3.heap.size (f 0) rfl (by simp) (by omega) (by have := hg3.size; simp at this ⊢ <;> omega) ?_; intro A4 c4 w4 hr4 hg4)
            | (refine want_step_append_int _ (by rfl) _ _ rfl rfl hr3' _ (f 0) rfl (hg3.cell (by simp) (by simp [Value.ownBlock])) (by omega) (by have := hg3.size; simp at this ⊢ <;> omega) ?_; intro A4 c4 w4 hr4 hg4; simp only [Nat.zero_add] at hr4))
          all_goals
            have HB3 : Below w.heap.size w w3 := by
              first
                | exact ((HB2.out.drew).alloc hsz2 _).grown hg3 (by simp <;> omega) (fun b e => by simp [Value.ownBlock] at e <;> omega)
                | exact (((HB2.out.drew).alloc hsz2 _).alloc (by simp <;> omega) _).grown hg3 (by simp <;> omega) (fun b e => by simp [Value.ownBlock] at e <;> omega)
            have HB4 : Below w.heap.size w w4 := by
              first
                | exact HB3.grown hg4 HB3.size (fun b e => Nat.le_trans hsz2 (hr3.own b e))
                | exact HB3.grown hg4 HB3.size (fun b e => Nat.le_trans hsz2 (hr3'.own b e))
                | exact (HB3.alloc HB3.size _).grown hg4 (by have := HB3.size; simp; omega) (fun b e => Nat.le_trans hsz2 (hr3.own b e))
            have HBH := Lib.hid HB4
            clear HB3 HB4 hg3 hg4 hr3 hr3' hr4
            go_wp2
            go_ret
            exact ⟨rfl, HBH.out⟩
        · have hc2 : ¬ (c1 - 1 = 0) := by omega
          have q2 : (m : Int) + 1 ≤ c1 := by omega
          have q3 : (1 : Int) ≤ (m : Int) + 1 := by omega
          have q4 : (0 : Int) ≤ (m : Int) := by omega
          have q5 : (m : Int) < (m : Int) + 1 := by omega
          have q6 : IntKind.i64.wrap ((m : Int) + 1 - 1) = (m : Int) := by rw [show (m : Int) + 1 - 1 = (m : Int) by omega]; exact IntWalk.i64_in _ (by omega)
          have q7 : IntKind.i64.wrap (m : Int) = (m : Int) := IntWalk.i64_in _ (by omega)
          go_wp2_with fail
          obtain ⟨F, hF, hI⟩ : ∃ F, Hid (stopsB F m = true) ∧ Hid (Ints w2 w2.heap.size (some ⟨b, 1, none⟩) m F) := ⟨_, HV1, hT⟩
          clear hT HV1
          go_region_held3 (fun w' => w'.cell? ⟨b, m, none⟩ = some (.int .i64 (f m))) (first | go_keep | exact HKP.out _ _ _ (by assumption) hg4 hr3.own | exact HKP.out _ _ _ (by assumption) hg4 hr3'.own | exact HKP.out _ _ _ (by assumption) hg3 (fun k e => by simp [Value.ownBlock] at e <;> omega)) (first
            | (go_at_call 15; ((with_reducible refine (impl_StopsValid (n := m) (f := F) (by omega) (hI.out.drew)).mono ?_); rintro e w3 ⟨rfl, rfl⟩; rw [hF.out]))
            | (go_at_call 15; ((with_reducible refine (impl_StopsValid (n := m + 1 + 1) (f := snoc (catF f 0 f) (m + 1) (f m)) (by omega) hr4.ints).mono ?_); rintro e w5 ⟨rfl, rfl⟩; rw [HV2.out]))
            | (refine want_step_append_ints _ (by rfl) _ _ rfl rfl (Row.empty (w := w2.drew) (base := w2.heap.size) f (Nat.le_refl _)) rfl (HR2.out.drew.alloc _).ints (by intro h; cases h) (by omega) (by simp) ?_; intro A3 c3 w3 hr3 hg3; have hr3' := hr3; rw [Nat.zero_add] at hr3)
            | (refine want_step_append_ints _ (by rfl) _ _ rfl rfl ((Row.empty (w := w2.drew) (base := w2.heap.size) f (Nat.le_refl _)).alloc _) rfl ((HR2.out.drew.alloc _).alloc _).ints (by intro h; cases h) (by omega) (by simp <;> omega) ?_; intro A3 c3 w3 hr3 hg3; have hr3' := hr3; rw [Nat.zero_add] at hr3)
            | (refine want_step_append_ints _ (by rfl) _ _ rfl rfl (Row.emptyAt (w := w2.drew.alloc _) (g := w2.heap.size + 1) (base := w2.heap.size) f (by simp) (by simp)) rfl ((HR2.out.drew.alloc _).alloc _).ints (by intro h; cases h) (by omega) (by simp <;> omega) ?_; intro A3 c3 w3 hr3 hg3; have hr3' := hr3; rw [Nat.zero_add] at hr3)
            | (refine want_step_append_int _ (by rfl) _ _ rfl rfl (hr3.alloc _) w3.heap.size (f m) rfl (by simp) (by omega) (by have := hg3.size; simp at this ⊢ <;> omega) ?_; intro A4 c4 w4 hr4 hg4)
            | (refine want_step_append_int _ (by rfl) _ _ rfl rfl hr3' _ (f m) rfl (hg3.cell (by simp) (by simp [Value.ownBlock])) (by omega) (by have := hg3.size; simp at this ⊢ <;> omega) ?_; intro A4 c4 w4 hr4 hg4; rw [Nat.zero_add] at hr4))
          all_goals
            have HB3 : Below w.heap.size w w3 := by
              first
                | exact ((HB2.out.drew).alloc hsz2 _).grown hg3 (by simp <;> omega) (fun b e => by simp [Value.ownBlock] at e <;> omega)
                | exact (((HB2.out.drew).alloc hsz2 _).alloc (by simp <;> omega) _).grown hg3 (by simp <;> omega) (fun b e => by simp [Value.ownBlock] at e <;> omega)
            have HB4 : Below w.heap.size w w4 := by
              first
                | exact HB3.grown hg4 HB3.size (fun b e => Nat.le_trans hsz2 (hr3.own b e))
                | exact HB3.grown hg4 HB3.size (fun b e => Nat.le_trans hsz2 (hr3'.own b e))
                | exact (HB3.alloc HB3.size _).grown hg4 (by have := HB3.size; simp; omega) (fun b e => Nat.le_trans hsz2 (hr3.own b e))
            have HBH := Lib.hid HB4
            clear HB3 HB4 hg3 hg4 hr3 hr3' hr4 q6 q7
            go_wp2
            go_ret
            exact ⟨rfl, HBH.out⟩
  · go_enter Try.func6, Try.ntmps6
    go_wp2
    go_ret
    exact ⟨rfl, Below.refl _ _⟩

end Go.Proofs.Ytnpignenikkmiaa
