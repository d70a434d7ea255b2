/-
  The law FnFewestStops: the walk. No claim stands here.
-/
import Derived.Test.YtnpignenikkmiaaFnGap
namespace Go.Proofs.Ytnpignenikkmiaa
open Go.RowKit
set_option linter.unusedVariables false
set_option linter.unusedSimpArgs false

theorem few_del {t : Int} {l : Nat → Int} {m k : Nat} (h : fewOk t l m = true) (hk : k < cntM t (fewM l m)) : serveB t l m (del (mulM (fewM l m)) k) (cntM t (fewM l m) - 1) = false := by
  obtain ⟨⟨t1, t2⟩, hp, h0⟩ := fewOk_iff.1 h
  obtain ⟨b1, b2⟩ := fewM_bound hp h0
  rw [Bool.eq_false_iff]; intro hs
  obtain ⟨_, _, h3⟩ := serveB_iff.1 hs
  have h4 := best_del (k := k) t1 t2 b1 hk
  obtain ⟨i, hi, e⟩ := minTo_mem l (m - 1)
  have h5 := h3 i (by omega)
  have e2 : fewM l m = l i := e
  omega
theorem few_serve {t : Int} {l : Nat → Int} {m : Nat} (h : fewOk t l m = true) : serveB t l m (mulM (fewM l m)) (cntM t (fewM l m)) = true := by
  obtain ⟨⟨t1, t2⟩, hp, h0⟩ := fewOk_iff.1 h
  obtain ⟨b1, b2⟩ := fewM_bound hp h0
  exact serveB_iff.2 ⟨best_ok t1 t2 b1, hp, fun i hi => Int.le_trans (best_gap t1 t2 b1) (minTo_le l (m - 1) i (by omega))⟩
theorem few_stops {t : Int} {l : Nat → Int} {m : Nat} (h : fewOk t l m = true) : stopsB (mulM (fewM l m)) (cntM t (fewM l m)) = true := by
  obtain ⟨⟨t1, t2⟩, hp, h0⟩ := fewOk_iff.1 h
  exact (gapOk_iff.1 (best_ok t1 t2 (fewM_bound hp h0).1)).2.1
theorem few_no {t : Int} {l : Nat → Int} {m : Nat} (h : fewOk t l m = false) : t < 1 ∨ (¬ t < 1 ∧ 40 < t) ∨ (¬ t < 1 ∧ ¬ 40 < t ∧ partsB l m = false) ∨ (¬ t < 1 ∧ ¬ 40 < t ∧ partsB l m = true ∧ ((m : Int) == 0) = true) := by
  by_cases h1 : t < 1
  · exact .inl h1
  · by_cases h2 : 40 < t
    · exact .inr (.inl ⟨h1, h2⟩)
    · cases hp : partsB l m
      · exact .inr (.inr (.inl ⟨h1, h2, rfl⟩))
      · refine .inr (.inr (.inr ⟨h1, h2, rfl, ?_⟩))
        rw [Bool.eq_false_iff] at h
        have : ¬ 0 < m := fun h0 => h (fewOk_iff.2 ⟨⟨by omega, by omega⟩, hp, h0⟩)
        simp; omega

set_option maxHeartbeats 3200000 in
theorem law_FewestStops {w : World} {A : Option Addr} {n c : Nat} {h : Nat → Int} (hc : n ≤ c) (hs : Bytes w w.heap.size A n h) :
    Calls Try.prog 11 #[.slice A n c] w fun e w' => e = .returned (.bool true) ∧ Below w.heap.size w w' := by
  by_cases h20 : n ≤ 1048576
  · go_enter Try.func11, Try.ntmps11
    go_wp2_with fail
    refine (DrawFewestStops_any (Nat.le_refl _) hc hs).mono ?_
    rintro e w1 ⟨t, A1, m, c1, l, rfl, hm, hr1, hb1⟩
    have HB1 := Lib.hid hb1
    have HR1 := Lib.hid hr1
    have hsz1 := hb1.size
    clear hb1 hr1
    go_wp2_with fail
    refine (impl_FewestStops t (by omega) (Nat.le_refl _) HR1.out.ints).mono ?_
    rintro e w2 ⟨A2, c2, rfl, hr2, hb2⟩
    have HB2 := Lib.hid (HB1.out.trans (hb2.mono hsz1))
    have HL2 := Lib.hid (HR1.out.below hb2 (Nat.le_refl _))
    have HS2 := Lib.hid hr2
    have hsz12 := hb2.size
    clear hr2 hb2 HR1 HB1
    go_wp2_with fail
    refine (spec_FewestStops t (by omega) (Nat.le_refl _) HL2.out.ints).mono ?_
    rintro e w3 ⟨A3, c3, rfl, hr3, hb3⟩
    have HB3 := Lib.hid (HB2.out.trans (hb3.mono HB2.out.size))
    have HL3 := Lib.hid (HL2.out.below hb3 (Nat.le_refl _))
    have HS3 := Lib.hid (HS2.out.below hb3 (Nat.le_refl _))
    have HW3 := Lib.hid hr3
    clear hr3 hb3 HL2 HB2 HS2
    have E := eqB_refl (mulM (fewM l m)) (fewN t l m)
    have hN39 : fewN t l m ≤ 39 := by
      cases h : fewOk t l m
      · rw [fewN_no h]; omega
      · obtain ⟨⟨t1, t2⟩, hp, h0⟩ := fewOk_iff.1 h
        rw [fewN_yes h]
        exact cntM_le t2 (fewM_bound hp h0).1
    go_wp2_with fail
    refine (sameInts_any (by omega) HS3.out.ints HW3.out.ints).mono ?_
    rintro e w4 ⟨rfl, j4, rfl⟩
    rw [E]
    clear E
    have HB4 := Lib.hid (below_drewN HB3.out j4)
    have HL4 := Lib.hid (HL3.out.drewN j4)
    have HS4 := Lib.hid (HS3.out.drewN j4)
    clear HB3 HL3 HS3 HW3
    generalize w3.drewN j4 = w4 at *
    cases hf : fewOk t l m
    · have hN := fewN_no hf
      rw [hN] at HS4
      rw [hN]
      clear hN39 hN HS4
      rcases few_no hf with h1 | ⟨h1, h2⟩ | ⟨h1, h2, hp⟩ | ⟨h1, h2, hp, h0⟩
      all_goals
        clear hf
        go_wp2_with (first
          | (go_at_call 17; refine (spec_PartsValid (by omega) HL4.out.ints).mono ?_; rintro e w5 ⟨rfl, j5, rfl⟩)
          | (go_at_call 22; refine alive_any.mono ?_; rintro e w6 ⟨rfl, hb6⟩))
        go_ret
        refine ⟨rfl, ?_⟩
        first
          | exact HB4.out.trans (hb6.mono HB4.out.size)
          | exact (below_drewN HB4.out j5).trans (hb6.mono HB4.out.size)
    · have HD : Hid (∀ k, k < fewN t l m → ∀ N, N = fewN t l m - 1 → serveB t l m (del (mulM (fewM l m)) k) N = false) := Lib.hid (by
        intro k hk N hN; rw [fewN_yes hf] at hk hN; rw [hN]; exact few_del hf hk)
      have HV1 : Hid (serveB t l m (mulM (fewM l m)) (fewN t l m) = true) := Lib.hid (by rw [fewN_yes hf]; exact few_serve hf)
      have HV2 : Hid (stopsB (mulM (fewM l m)) (fewN t l m) = true) := Lib.hid (by rw [fewN_yes hf]; exact few_stops hf)
      obtain ⟨⟨t1, t2⟩, hp, h0⟩ := fewOk_iff.1 hf
      have u1 : ¬ t < 1 := by omega
      have u2 : ¬ 40 < t := by omega
      have u3 : ((m : Int) == 0) = false := by simp; omega
      clear hf t1 t2 h0
      generalize fewN t l m = N at *
      generalize mulM (fewM l m) = f at *
      go_wp2_with fail
      refine (spec_PartsValid (by omega) HL4.out.ints).mono ?_
      rintro e w5 ⟨rfl, j5, rfl⟩
      have HB5 := Lib.hid (below_drewN HB4.out j5)
      have HL5 := Lib.hid (HL4.out.drewN j5)
      have HS5 := Lib.hid (HS4.out.drewN j5)
      clear HB4 HL4 HS4
      generalize w4.drewN j5 = w5 at *
      rw [hp]
      clear hp
      have hsz5 := HB5.out.size
      go_wp2
      clear u1 u2 u3
      go_loopw [6] (fun s6 wr => ∃ k : Nat, s6 = .int .i64 k ∧ k ≤ N ∧ Below w5.heap.size w5 wr) (fun s6 _ => N - (intOf s6).toNat)
      case atStart => exact ⟨0, rfl, by omega, Below.refl _ _⟩
      case round =>
        obtain ⟨k, rfl, hk, hb⟩ := hrel
        by_cases hlt : k < N
        · have HRr := Lib.hid (HS5.out.below hb (Nat.le_refl _))
          have HLr := Lib.hid (HL5.out.below hb (Nat.le_refl _))
          have HBr := Lib.hid hb
          have hszr := hb.size
          have HDk := Lib.hid (HD.out k hlt)
          clear hb
          obtain ⟨b, rfl, hbb, hbl⟩ := HRr.out.form (by omega)
          obtain ⟨hp1, hp2⟩ := HRr.out.pieces hlt
          have HP1 := Lib.hid hp1
          have HP2 := Lib.hid hp2
          have hcap : N ≤ c2 := HRr.out.cap.1
          clear hp1 hp2
          have q1 : (0 : Int) ≤ (k : Int) := by omega
          have q2 : (k : Int) ≤ c2 := by omega
          have q3 : (k : Int) + 1 ≤ N := by omega
          have q4 : (N : Int) ≤ c2 := by omega
          have q5 : IntKind.i64.wrap ((k : Int) + 1) = (k : Int) + 1 := IntWalk.i64_in _ (by omega)
          have q6 : (0 : Int) ≤ (k : Int) + 1 := by omega
          have q7 : ((k : Int) + 1).toNat = k + 1 := by omega
          by_cases hc1 : c2 = k + 1
          · obtain rfl : N = k + 1 := by omega
            subst hc1
            clear q3 q4 q2
            have q2 : (k : Int) ≤ (k : Int) + 1 := by omega
            have q8 : (k : Int) + 1 ≤ (k : Int) + 1 := by omega
            go_wp2
            go_region_held3 (fun _ => True) (trivial) (first
              | (refine step_append_ints _ (by rfl) _ _ rfl rfl (Row.empty (w := wr.drew) (base := wr.heap.size) f (Nat.le_refl _)) rfl (Ints.alloc HP1.out (Nat.le_refl _) _) (by intro h; cases h) (by omega) (by simp) ?_; intro A3 c3 w3 hr3 hg3)
              | (refine step_append_ints _ (by rfl) _ _ rfl rfl hr3 rfl (Ints.zero (B := 0) (f := f)) (by intro h; cases h) (by omega) (by have := hg3.size; simp at this ⊢ <;> omega) ?_; intro A4 c4 w4 hr4 hg4))
            have HB3 : Below wr.heap.size wr w3 := (((Below.refl wr.heap.size wr).drew).alloc (Nat.le_refl _) _).grown hg3 (by simp) (fun b e => by simp [Value.ownBlock] at e <;> omega)
            have hb4 := HB3.grown hg4 HB3.size hr3.own
            have HB4 := Lib.hid hb4
            have HL4 := Lib.hid (HLr.out.below hb4 (Nat.le_refl _))
            have HI : Hid (∀ N, N = (k + 1) - 1 → Ints w4 w4.heap.size A4 N (del f k)) := Lib.hid (by
              intro N hN; rw [hN]
              have := hr4.ints
              rw [show 0 + k + 0 = k + 1 - 1 by omega] at this
              refine this.congr (fun i hi => ?_)
              rw [Nat.zero_add, catF_lo (by omega), del_lo (by omega)]; simp [catF])
            clear hr3 hg3 hr4 hg4 HB3 q5 q7 hb4
            go_wp2_with fail
            refine (impl_ServiceOk (n := k) (f := del f k) t (by omega) HL4.out.ints (by omega) (HI.out _ (by omega))).mono ?_
            rintro e w5 ⟨rfl, rfl⟩
            rw [HDk.out k (by omega)]
            go_wp2
            go_roundw
            case rel => exact ⟨k + 1, by go_num, by omega, HBr.out.trans (HB4.out.mono hszr)⟩
            case measure => simp [intOf] <;> omega
          · have hc2 : ¬ (c2 - (k + 1) = 0) := by omega
            go_wp2
            go_region_held3 (fun _ => True) (trivial) (first
              | (refine step_append_ints _ (by rfl) _ _ rfl rfl (Row.empty (w := wr.drew) (base := wr.heap.size) f (Nat.le_refl _)) rfl (Ints.alloc HP1.out (Nat.le_refl _) _) (by intro h; cases h) (by omega) (by simp) ?_; intro A3 c3 w3 hr3 hg3)
              | (refine step_append_ints _ (by rfl) _ _ rfl rfl hr3 rfl ((Ints.alloc (Ints.drew HP2.out) (Nat.le_refl _) _).grown hg3 (by simp) (fun b e => by simp [Value.ownBlock] at e <;> omega)) (by intro h; cases h) (by omega) (by have := hg3.size; simp at this ⊢ <;> omega) ?_; intro A4 c4 w4 hr4 hg4))
            have HB3 : Below wr.heap.size wr w3 := (((Below.refl wr.heap.size wr).drew).alloc (Nat.le_refl _) _).grown hg3 (by simp) (fun b e => by simp [Value.ownBlock] at e <;> omega)
            have hb4 := HB3.grown hg4 HB3.size hr3.own
            have HB4 := Lib.hid hb4
            have HL4 := Lib.hid (HLr.out.below hb4 (Nat.le_refl _))
            have HI : Hid (∀ K, K = N - 1 → Ints w4 w4.heap.size A4 K (del f k)) := Lib.hid (by
              intro K hN; rw [hN]
              have := hr4.ints
              rw [show 0 + k + (N - (k + 1)) = N - 1 by omega] at this
              refine this.congr (fun i hi => ?_)
              rw [Nat.zero_add]; exact cat_del (f := f) (m := N - 1) (by omega) i hi)
            clear hr3 hg3 hr4 hg4 HB3 q5 q7 hb4
            go_wp2_with fail
            refine (impl_ServiceOk (n := k + (N - (k + 1))) (f := del f k) t (by omega) HL4.out.ints (by omega) (HI.out _ (by omega))).mono ?_
            rintro e w5 ⟨rfl, rfl⟩
            rw [HDk.out (k + (N - (k + 1))) (by omega)]
            go_wp2
            go_roundw
            case rel => exact ⟨k + 1, by go_num, by omega, HBr.out.trans (HB4.out.mono hszr)⟩
            case measure => simp [intOf] <;> omega
        · obtain rfl : k = N := by omega
          have HRr := Lib.hid (HS5.out.below hb (Nat.le_refl _))
          have HLr := Lib.hid (HL5.out.below hb (Nat.le_refl _))
          have HB := Lib.hid (HB5.out.trans (hb.mono hsz5))
          clear hb
          go_wp2_with fail
          refine (impl_ServiceOk (f := f) t (by omega) HLr.out.ints (by omega) HRr.out.ints).mono ?_
          rintro e w6 ⟨rfl, rfl⟩
          rw [HV1.out]
          go_wp2_with fail
          refine (impl_StopsValid (by omega) HRr.out.ints).mono ?_
          rintro e w6 ⟨rfl, rfl⟩
          rw [HV2.out]
          go_wp2
          go_ret
          exact ⟨rfl, HB.out⟩
  · go_enter Try.func11, Try.ntmps11
    go_wp2
    go_ret
    exact ⟨rfl, Below.refl _ _⟩
end Go.Proofs.Ytnpignenikkmiaa
