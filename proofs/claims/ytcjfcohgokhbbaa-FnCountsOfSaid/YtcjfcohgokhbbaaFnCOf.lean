/-
  The law FnCountsOf: the walk. No claim stands here.
-/
import Derived.Test.YtcjfcohgokhbbaaDrawC
import Derived.Test.YtcjfcohgokhbbaaAlive
import Derived.Test.YtcjfcohgokhbbaaCountOf
namespace Go.Proofs.Ytcjfcohgokhbbaa
open Go.RowKit
set_option linter.unusedVariables false
set_option linter.unusedSimpArgs false

theorem halves_ok {f : Nat → Int} {n h : Nat} (ht : timesB f n = true) (hh : h ≤ n) :
    timesB f h = true ∧ timesB (fun j => f (h + j)) (n - h) = true ∧ joinOk (cntOf f h) 16 (cntOf (fun j => f (h + j)) (n - h)) 16 = true ∧
    ∀ i, i < 16 → joinF (cntOf f h) (cntOf (fun j => f (h + j)) (n - h)) i = cntOf f n i := by
  have e : ∀ i, cntOf f h i + cntOf (fun j => f (h + j)) (n - h) i = cntOf f n i := fun i => by
    have := cntOf_split f h (n - h) i
    rw [show h + (n - h) = n by omega] at this
    exact this.symm
  refine ⟨timesB_less ht hh, timesB_tail ht hh, joinOk_iff.2 ⟨counts_of_times (timesB_less ht hh), counts_of_times (timesB_tail ht hh), ?_⟩, fun i _ => e i⟩
  have := counts_of_times ht
  rw [countsB_iff] at this ⊢
  exact ⟨rfl, fun i hi => by rw [e i]; exact this.2 i hi⟩
theorem all_times {f : Nat → Int} {n : Nat} (ht : timesB f n = true) : allOf (cntOf f n) 16 = n := by
  rw [allOf_yes (counts_of_times ht), cntOf_sum (timesB_iff.1 ht).1]

set_option maxHeartbeats 3200000 in
theorem law_CountsOf {w : World} {A : Option Addr} {n c : Nat} {h : Nat → Int} (hc : n ≤ c) (hs : Bytes w w.heap.size A n h) :
    Calls Try.prog 8 #[.slice A n c] w fun e w' => e = .returned (.bool true) ∧ Below w.heap.size w w' := by
  by_cases h20 : n ≤ 1048576
  · go_enter Try.func8, Try.ntmps8
    go_wp2_with fail
    refine (DrawCountsOf_any (Nat.le_refl _) hc hs).mono ?_
    rintro e w1 ⟨A1, n1, c1, f, rfl, hn1, hr1, hb1⟩
    have HB1 := Lib.hid hb1
    have HR1 := Lib.hid hr1
    have hsz1 := hb1.size
    clear hb1 hr1
    go_wp2_with fail
    refine (impl_CountsOf (by omega) (Nat.le_refl _) HR1.out.ints).mono ?_
    rintro e w2 ⟨A2, c2, rfl, hr2, hb2⟩
    have HB2 := Lib.hid (HB1.out.trans (hb2.mono hsz1))
    have HT2 := Lib.hid (HR1.out.below hb2 (Nat.le_refl _))
    have HX2 := Lib.hid hr2
    have hsz2 := HB2.out.size
    clear hr2 hb2 HR1 HB1
    go_wp2_with fail
    refine (spec_CountsOf (by omega) (Nat.le_refl _) HT2.out.ints).mono ?_
    rintro e w3 ⟨A3, c3, rfl, hr3, hb3⟩
    have HB3 := Lib.hid (HB2.out.trans (hb3.mono hsz2))
    have HT3 := Lib.hid (HT2.out.below hb3 (Nat.le_refl _))
    have HX3 := Lib.hid (HX2.out.below hb3 (Nat.le_refl _))
    have HY3 := Lib.hid hr3
    have hsz3 := HB3.out.size
    have hN16 : cntN f n1 ≤ 16 := by
      cases h : timesB f n1
      · rw [cntN_no h]; omega
      · rw [cntN_yes h]; omega
    have E := eqB_refl (cntOf f n1) (cntN f n1)
    clear hr3 hb3 HB2 HT2 HX2
    go_wp2_with fail
    refine (sameInts_any (by omega) HX3.out.ints HY3.out.ints).mono ?_
    rintro e w4 ⟨rfl, j4, rfl⟩
    rw [E]
    clear E HY3
    have HB4 := Lib.hid (below_drewN HB3.out j4)
    have HT4 := Lib.hid (HT3.out.drewN j4)
    have HX4 := Lib.hid (HX3.out.drewN j4)
    have hsz4 := HB4.out.size
    clear HB3 HT3 HX3
    generalize w3.drewN j4 = w4 at *
    cases ht : timesB f n1
    · rw [cntN_no ht] at HX4
      rw [cntN_no ht]
      clear ht HX4 hN16
      go_wp2_with fail
      refine alive_any.mono ?_
      rintro e w5 ⟨rfl, hb5⟩
      have HB5 := Lib.hid (HB4.out.trans (hb5.mono hsz4))
      clear hb5
      go_wp2
      go_ret
      exact ⟨rfl, HB5.out⟩
    · rw [cntN_yes ht] at HX4
      rw [cntN_yes ht]
      have HT := Lib.hid ht
      clear ht hN16
      have hrow5 := Row.empty (w := w4) (base := w4.heap.size) (turnF f n1) (Nat.le_refl _)
      have hb5 := (Below.refl w4.heap.size w4).alloc (Nat.le_refl _) (.cells #[] 3)
      go_wp2
      go_loopw [5, 6] (fun s5 s6 wr => ∃ (i : Nat) (q : Int) (A : Option Addr) (c : Nat), i ≤ n1 ∧ Hid (q = (n1 : Int) - 1 - i) ∧ s6 = .int .i64 q ∧ s5 = .slice A i c ∧ Row wr w4.heap.size A i c (turnF f n1) ∧ Below w4.heap.size w4 wr) (fun _ s6 _ => (intOf s6 + 1).toNat)
      case atStart => exact ⟨0, _, _, _, Nat.zero_le _, Lib.hid (by omega), rfl, rfl, hrow5, hb5⟩
      case round =>
        obtain ⟨i, q, A5, c5, hi, HQ, rfl, rfl, hr5, hb⟩ := hrel
        clear hrow5 hb5
        have hqe := HQ.out
        by_cases hlt : i < n1
        · obtain ⟨j, rfl⟩ : ∃ j : Nat, q = (j : Int) := ⟨q.toNat, by omega⟩
          have hj : j < n1 := by omega
          have HJ : Hid (f j = turnF f n1 i) := Lib.hid (by unfold turnF; congr 1; omega)
          have HTr := Lib.hid (HT4.out.below hb (Nat.le_refl _))
          have HRow := Lib.hid hr5
          have HB := Lib.hid hb
          have hszr := hb.size
          have k1 : (j : Int) < n1 := by omega
          clear hqe hr5 hb
          obtain ⟨b, rfl, hbb, hbl⟩ := HTr.out.form (by omega)
          have z1 := HTr.out.cell hj
          go_wp2_with (at_builtin; refine append_int _ rfl _ _ rfl rfl (HRow.out.alloc _) wr.heap.size (f j) rfl (by simp) (by omega) (by simp; omega) ?_; intro A6 c6 w6 hr6 hg6)
          rw [HJ.out] at hr6
          have HR6 := Lib.hid (hr6.congr (snoc_self (turnF f n1) i))
          have HB6 := Lib.hid ((HB.out.alloc hszr _).grown hg6 (by simp; omega) HRow.out.own)
          clear hr6 hg6
          go_wp2
          go_roundw
          case rel => exact ⟨i + 1, _, A6, c6, by omega, Lib.hid (by have := HQ.out; omega), rfl, rfl, HR6.out, HB6.out⟩
          case measure => simp [intOf] <;> omega
        · obtain rfl : i = n1 := by omega
          have hq : q < 0 := by omega
          clear hqe
          have HTr := Lib.hid (HT4.out.below hb (Nat.le_refl _))
          have HXr := Lib.hid (HX4.out.below hb (Nat.le_refl _))
          have HUr := Lib.hid hr5
          have HBr := Lib.hid (HB4.out.trans (hb.mono hsz4))
          have hszr := HBr.out.size
          have HN := Lib.hid (all_times HT.out)
          have HU := Lib.hid (cntN_yes ((timesB_turn f i).trans HT.out))
          clear hr5 hb HT4 HX4 HB4 HQ
          obtain ⟨hf, e5, e6, e7⟩ : ∃ d : Nat, (i : Int) / 2 = (d : Int) ∧ d ≤ i ∧ (0 < i → d < i) := ⟨i / 2, by omega, by omega, by omega⟩
          obtain ⟨k1, k2, k3, k4⟩ := halves_ok HT.out e6
          have K1 := Lib.hid (cntN_yes k1)
          have K2 := Lib.hid (cntN_yes k2)
          have K3 := Lib.hid k3
          have K4 := Lib.hid k4
          clear k1 k2 k3 k4
          have q1 : (0 : Int) ≤ (hf : Int) := by omega
          have q2 : (hf : Int) ≤ i := by omega
          have hcap := HTr.out.cap.1
          have q3 : (i : Int) ≤ c1 := by omega
          have q4 : (hf : Int) ≤ c1 := by omega
          have q5 : IntKind.i64.wrap (hf : Int) = (hf : Int) := IntWalk.i64_in _ (by omega)
          by_cases h0 : i = 0
          · subst h0
            obtain rfl : hf = 0 := by omega
            have hI1 : Hid (Ints wr wr.heap.size A1 0 f) := Lib.hid Ints.zero
            have hI2 : Hid (Ints wr wr.heap.size A1 0 (fun j => f (0 + j))) := Lib.hid Ints.zero
            have K2 : Hid (cntN (fun j => f (0 + j)) 0 = 16) := K2
            have K3 : Hid (joinOk (cntOf f 0) 16 (cntOf (fun j => f (0 + j)) 0) 16 = true) := K3
            have K4 : Hid (∀ i, i < 16 → joinF (cntOf f 0) (cntOf (fun j => f (0 + j)) 0) i = cntOf f 0 i) := K4
            have hnc := HTr.out.none_cap
            rcases HTr.out.shape with rfl | ⟨b, rfl⟩
            · obtain rfl := hnc rfl
              clear hnc hcap
              go_wp2
              go_region_held3 (fun _ => True) (trivial) (first
                | (go_at_call 14; ((with_reducible refine (impl_CountsOf (n := 0) (f := f) (by omega) (Nat.le_refl _) hI1.out.drew).mono ?_); rintro e w6 ⟨A6, c6, rfl, hr6, hb6⟩; rw [K1.out]; rw [K1.out] at hr6; have hsz6 : wr.heap.size ≤ w6.heap.size := hb6.size; have hI3 : Ints w6 wr.heap.size none 0 (fun j => f (0 + j)) := hI2.out.drew.below hb6))
                | (go_at_call 14; ((with_reducible refine (impl_CountsOf (n := 0) (f := fun j => f (0 + j)) (by omega) hsz6 hI3).mono ?_); rintro e w7 ⟨A7, c7, rfl, hr7, hb7⟩; rw [K2.out]; rw [K2.out] at hr7))
                | (go_at_call 21; ((with_reducible refine (impl_CountsJoin (by omega) (by omega) (Nat.le_refl _) (Nat.le_refl _) (hr6.below hb7 (Nat.le_refl _)).ints hr7.ints).mono ?_); rintro e w8 ⟨A8, c8, rfl, hr8, hb8⟩; rw [joinN_yes K3.out, K3.out]; rw [joinN_yes K3.out] at hr8)))
              have hX7 := ((HXr.out.drew.below hb6 (Nat.le_refl _)).below hb7 (Nat.le_refl _)).below hb8 (Nat.le_refl _)
              have hU7 := ((HUr.out.drew.below hb6 (Nat.le_refl _)).below hb7 (Nat.le_refl _)).below hb8 (Nat.le_refl _)
              have hB6 := HBr.out.drew.trans (hb6.mono hszr)
              have hB7 := hB6.trans (hb7.mono hB6.size)
              have hB8 := hB7.trans (hb8.mono hB7.size)
              have HX8 := Lib.hid hX7
              have HU8 := Lib.hid hU7
              have HB8 := Lib.hid hB8
              have HJ8 := Lib.hid (hr8.congr K4.out)
              have hsz8 := HB8.out.size
              clear hX7 hU7 hB6 hB7 hB8 hr6 hb6 hr7 hb7 hr8 hb8 hI3 q1 q2 q3 q4 q5 HXr HUr HBr HTr hI1 hI2 K1 K2 K3 K4 e5 hsz6
              go_wp2_with fail
              refine (impl_CountsAll (by omega) HX8.out.ints).mono ?_
              rintro e w9 ⟨rfl, rfl⟩
              rw [HN.out]
              go_wp2_with fail
              refine (impl_CountsOf (n := 0) (f := turnF f 0) (by omega) (Nat.le_refl _) HU8.out.ints).mono ?_
              rintro e w9 ⟨A9, c9, rfl, hr9, hb9⟩
              rw [HU.out]; rw [HU.out] at hr9
              have HX9 := Lib.hid (HX8.out.below hb9 (Nat.le_refl _))
              have HJ9 := Lib.hid (HJ8.out.below hb9 (Nat.le_refl _))
              have HB9 := Lib.hid (HB8.out.trans (hb9.mono hsz8))
              have HR9 := Lib.hid (hr9.congr (fun j _ => cntOf_turn f 0 j))
              have E := eqB_refl (cntOf f 0) 16
              clear hr9 hb9 HX8 HJ8 HU8
              go_wp2_with fail
              refine (sameInts_any (by omega) HR9.out.ints HX9.out.ints).mono ?_
              rintro e w10 ⟨rfl, j10, rfl⟩
              rw [E]
              go_wp2_with fail
              refine (sameInts_any (by omega) (HJ9.out.drewN j10).ints (HX9.out.drewN j10).ints).mono ?_
              rintro e w11 ⟨rfl, j11, rfl⟩
              rw [E]
              clear E
              go_wp2
              go_ret
              exact ⟨rfl, below_drewN HB9.out _⟩
            · clear hnc hcap
              go_wp2
              go_region_held3 (fun _ => True) (trivial) (first
                | (go_at_call 14; ((with_reducible refine (impl_CountsOf (n := 0) (f := f) (by omega) (Nat.le_refl _) hI1.out.drew).mono ?_); rintro e w6 ⟨A6, c6, rfl, hr6, hb6⟩; rw [K1.out]; rw [K1.out] at hr6; have hsz6 : wr.heap.size ≤ w6.heap.size := hb6.size; have hI3 : Ints w6 wr.heap.size (some ⟨b, 0, none⟩) 0 (fun j => f (0 + j)) := hI2.out.drew.below hb6))
                | (go_at_call 14; ((with_reducible refine (impl_CountsOf (n := 0) (f := fun j => f (0 + j)) (by omega) hsz6 hI3).mono ?_); rintro e w7 ⟨A7, c7, rfl, hr7, hb7⟩; rw [K2.out]; rw [K2.out] at hr7))
                | (go_at_call 21; ((with_reducible refine (impl_CountsJoin (by omega) (by omega) (Nat.le_refl _) (Nat.le_refl _) (hr6.below hb7 (Nat.le_refl _)).ints hr7.ints).mono ?_); rintro e w8 ⟨A8, c8, rfl, hr8, hb8⟩; rw [joinN_yes K3.out, K3.out]; rw [joinN_yes K3.out] at hr8)))
              have hX7 := ((HXr.out.drew.below hb6 (Nat.le_refl _)).below hb7 (Nat.le_refl _)).below hb8 (Nat.le_refl _)
              have hU7 := ((HUr.out.drew.below hb6 (Nat.le_refl _)).below hb7 (Nat.le_refl _)).below hb8 (Nat.le_refl _)
              have hB6 := HBr.out.drew.trans (hb6.mono hszr)
              have hB7 := hB6.trans (hb7.mono hB6.size)
              have hB8 := hB7.trans (hb8.mono hB7.size)
              have HX8 := Lib.hid hX7
              have HU8 := Lib.hid hU7
              have HB8 := Lib.hid hB8
              have HJ8 := Lib.hid (hr8.congr K4.out)
              have hsz8 := HB8.out.size
              clear hX7 hU7 hB6 hB7 hB8 hr6 hb6 hr7 hb7 hr8 hb8 hI3 q1 q2 q3 q4 q5 HXr HUr HBr HTr hI1 hI2 K1 K2 K3 K4 e5 hsz6
              go_wp2_with fail
              refine (impl_CountsAll (by omega) HX8.out.ints).mono ?_
              rintro e w9 ⟨rfl, rfl⟩
              rw [HN.out]
              go_wp2_with fail
              refine (impl_CountsOf (n := 0) (f := turnF f 0) (by omega) (Nat.le_refl _) HU8.out.ints).mono ?_
              rintro e w9 ⟨A9, c9, rfl, hr9, hb9⟩
              rw [HU.out]; rw [HU.out] at hr9
              have HX9 := Lib.hid (HX8.out.below hb9 (Nat.le_refl _))
              have HJ9 := Lib.hid (HJ8.out.below hb9 (Nat.le_refl _))
              have HB9 := Lib.hid (HB8.out.trans (hb9.mono hsz8))
              have HR9 := Lib.hid (hr9.congr (fun j _ => cntOf_turn f 0 j))
              have E := eqB_refl (cntOf f 0) 16
              clear hr9 hb9 HX8 HJ8 HU8
              go_wp2_with fail
              refine (sameInts_any (by omega) HR9.out.ints HX9.out.ints).mono ?_
              rintro e w10 ⟨rfl, j10, rfl⟩
              rw [E]
              go_wp2_with fail
              refine (sameInts_any (by omega) (HJ9.out.drewN j10).ints (HX9.out.drewN j10).ints).mono ?_
              rintro e w11 ⟨rfl, j11, rfl⟩
              rw [E]
              clear E
              go_wp2
              go_ret
              exact ⟨rfl, below_drewN HB9.out _⟩
          · obtain ⟨b, rfl, hbb, hbl⟩ := HTr.out.form (by omega)
            have hc2 : ¬ (c1 - hf = 0) := by have := e7 (by omega); omega
            have hI1 := Lib.hid (HTr.out.ints.take hf e6)
            have hI2 : Hid (Ints wr wr.heap.size (some ⟨b, hf, none⟩) (i - hf) (fun j => f (hf + j))) := Lib.hid (by
              have := HTr.out.ints.from hf
              rwa [Nat.zero_add] at this)
            go_wp2
            go_region_held3 (fun _ => True) (trivial) (first
              | (go_at_call 14; ((with_reducible refine (impl_CountsOf (n := hf) (f := f) (by omega) (Nat.le_refl _) hI1.out.drew).mono ?_); rintro e w6 ⟨A6, c6, rfl, hr6, hb6⟩; rw [K1.out]; rw [K1.out] at hr6; have hsz6 : wr.heap.size ≤ w6.heap.size := hb6.size; have hI3 : Ints w6 wr.heap.size (some ⟨b, hf, none⟩) (i - hf) (fun j => f (hf + j)) := hI2.out.drew.below hb6))
              | (go_at_call 14; ((with_reducible refine (impl_CountsOf (n := (i - hf)) (f := fun j => f (hf + j)) (by omega) hsz6 hI3).mono ?_); rintro e w7 ⟨A7, c7, rfl, hr7, hb7⟩; rw [K2.out]; rw [K2.out] at hr7))
              | (go_at_call 21; ((with_reducible refine (impl_CountsJoin (by omega) (by omega) (Nat.le_refl _) (Nat.le_refl _) (hr6.below hb7 (Nat.le_refl _)).ints hr7.ints).mono ?_); rintro e w8 ⟨A8, c8, rfl, hr8, hb8⟩; rw [joinN_yes K3.out, K3.out]; rw [joinN_yes K3.out] at hr8)))
            have hX7 := ((HXr.out.drew.below hb6 (Nat.le_refl _)).below hb7 (Nat.le_refl _)).below hb8 (Nat.le_refl _)
            have hU7 := ((HUr.out.drew.below hb6 (Nat.le_refl _)).below hb7 (Nat.le_refl _)).below hb8 (Nat.le_refl _)
            have hB6 := HBr.out.drew.trans (hb6.mono hszr)
            have hB7 := hB6.trans (hb7.mono hB6.size)
            have hB8 := hB7.trans (hb8.mono hB7.size)
            have HX8 := Lib.hid hX7
            have HU8 := Lib.hid hU7
            have HB8 := Lib.hid hB8
            have HJ8 := Lib.hid (hr8.congr K4.out)
            have hsz8 := HB8.out.size
            clear hX7 hU7 hB6 hB7 hB8 hr6 hb6 hr7 hb7 hr8 hb8 hI3 q1 q2 q3 q4 q5 HXr HUr HBr HTr hI1 hI2 K1 K2 K3 K4 e5 hsz6
            go_wp2_with fail
            refine (impl_CountsAll (by omega) HX8.out.ints).mono ?_
            rintro e w9 ⟨rfl, rfl⟩
            rw [HN.out]
            go_wp2_with fail
            refine (impl_CountsOf (n := i) (f := turnF f i) (by omega) (Nat.le_refl _) HU8.out.ints).mono ?_
            rintro e w9 ⟨A9, c9, rfl, hr9, hb9⟩
            rw [HU.out]; rw [HU.out] at hr9
            have HX9 := Lib.hid (HX8.out.below hb9 (Nat.le_refl _))
            have HJ9 := Lib.hid (HJ8.out.below hb9 (Nat.le_refl _))
            have HB9 := Lib.hid (HB8.out.trans (hb9.mono hsz8))
            have HR9 := Lib.hid (hr9.congr (fun j _ => cntOf_turn f i j))
            have E := eqB_refl (cntOf f i) 16
            clear hr9 hb9 HX8 HJ8 HU8
            go_wp2_with fail
            refine (sameInts_any (by omega) HR9.out.ints HX9.out.ints).mono ?_
            rintro e w10 ⟨rfl, j10, rfl⟩
            rw [E]
            go_wp2_with fail
            refine (sameInts_any (by omega) (HJ9.out.drewN j10).ints (HX9.out.drewN j10).ints).mono ?_
            rintro e w11 ⟨rfl, j11, rfl⟩
            rw [E]
            clear E
            go_wp2
            go_ret
            exact ⟨rfl, below_drewN HB9.out _⟩
  · go_enter Try.func8, Try.ntmps8
    go_wp2
    go_ret
    exact ⟨rfl, Below.refl _ _⟩
end Go.Proofs.Ytcjfcohgokhbbaa
