/-
  The law FnServiceOk: the walk. No claim stands here.
-/
import Derived.Test.YtnpignenikkmiaaFnFew
namespace Go.Proofs.Ytnpignenikkmiaa
open Go.RowKit
set_option linter.unusedVariables false
set_option linter.unusedSimpArgs false

set_option maxHeartbeats 3200000 in
theorem DrawServiceOk_any {w : World} {B : Nat} {A : Option Addr} {n c : Nat} {h : Nat → Int} (hB : B ≤ w.heap.size) (hc : n ≤ c) (hs : Bytes w B A n h) :
    Calls Try.prog 33 #[.slice A n c] w fun e w' => ∃ t A1 n1 c1 f1 A2 n2 c2 f2, e = .returned (.tuple #[.int .i64 t, .slice A1 n1 c1, .slice A2 n2 c2]) ∧ n1 ≤ 20 ∧ Row w' w.heap.size A1 n1 c1 f1 ∧ n2 ≤ 40 ∧ Row w' w.heap.size A2 n2 c2 f2 ∧ Below w.heap.size w w' := by
  have HS := Lib.hid hs
  clear hs
  go_enter Try.func33, Try.ntmps33
  go_wp2_with fail
  refine (l20Open_any hB hc HS.out).mono ?_
  rintro e w1 ⟨g, rfl, hg, hr1, hb1⟩
  have HR1 := Lib.hid hr1
  have HB1 := Lib.hid hb1
  have hsz := hb1.size
  clear hr1 hb1
  go_wp2_with fail
  refine (l20Trips_any (by omega) HR1.out).mono ?_
  rintro e w2 ⟨t, rfl, hr2, hg2⟩
  have HB2 := Lib.hid (HB1.out.grown hg2 hsz (by intro b e; cases e; exact hg))
  have HR2 := Lib.hid hr2
  have hsz2 := HB2.out.size
  clear hr2 hg2
  go_wp2_with fail
  refine (l20Lasts_any _ (by omega) (by omega) (by omega) HR2.out).mono ?_
  rintro e w3 ⟨A3, n3, c3, f3, rfl, hn3, hr3, hrd3, hg3⟩
  have HB3 := Lib.hid (HB2.out.grown hg3 hsz2 (by intro b e; cases e; exact hg))
  have HL3 := Lib.hid (hr3.mono hsz2)
  have HR3 := Lib.hid hrd3
  have hsz3 := HB3.out.size
  have hgl : g < w2.heap.size := HR2.out.lt
  have HL3' := Lib.hid hr3
  clear hr3 hrd3 hg3
  go_wp2_with fail
  refine (HR3.out.pick _ (by omega) (by omega)).mono ?_
  rintro e w4 ⟨x4, rfl, hp4, hr4, hg4⟩
  obtain ⟨p1, p2⟩ := picked_lit hp4 (by omega)
  have HB4 := Lib.hid (HB3.out.grown hg4 hsz3 (by intro b e; cases e; exact hg))
  have HR4 := Lib.hid hr4
  have HL4' := Lib.hid (HL3'.out.kept hg4 (.inr (by intro b e; cases e; left; omega)))
  have HL4 := Lib.hid (HL4'.out.mono hsz2)
  have hsz4 := HB4.out.size
  clear hr4 hg4 hp4 HL3 HL3'
  by_cases hx : x4 = 0
  · subst hx
    go_wp2_with fail
    refine (spec_FewestStops t (by omega) (Nat.le_refl _) HL4.out.ints).mono ?_
    rintro e w5 ⟨A5, c5, rfl, hr5, hb5⟩
    have hN39 : fewN t f3 n3 ≤ 39 := by
      cases h : fewOk t f3 n3
      · rw [fewN_no h]; omega
      · obtain ⟨⟨t1, t2⟩, hp, h0⟩ := fewOk_iff.1 h
        rw [fewN_yes h]
        exact cntM_le t2 (fewM_bound hp h0).1
    have HB5 := Lib.hid (HB4.out.trans (hb5.mono hsz4))
    have HL5 := Lib.hid (HL4.out.below hb5 (Nat.le_refl _))
    have HS5 := Lib.hid (hr5.mono hsz4)
    clear hr5 hb5
    generalize fewN t f3 n3 = N at *
    generalize mulM (fewM f3 n3) = F at *
    go_wp2
    go_ret3
    exact ⟨t, A3, n3, c3, f3, A5, N, c5, F, rfl, by omega, HL5.out, by omega, HS5.out, HB5.out⟩
  · have hx2 : (x4 == 0) = false := by simpa using hx
    clear hx
    go_wp2_with fail
    refine (l20Stands_any _ (by omega) (by omega) (by omega) HR4.out).mono ?_
    rintro e w5 ⟨A5, n5, c5, f5, rfl, hn5, hr5, hrd5, hg5⟩
    have HB5 := Lib.hid (HB4.out.grown hg5 hsz4 (by intro b e; cases e; exact hg))
    have HL5 := Lib.hid ((HL4'.out.kept hg5 (.inr (by intro b e; cases e; left; omega))).mono hsz2)
    have HS5 := Lib.hid (hr5.mono hsz4)
    clear hr5 hrd5 hg5
    go_wp2
    go_ret3
    exact ⟨t, A3, n3, c3, f3, A5, n5, c5, f5, rfl, by omega, HL5.out, by omega, HS5.out, HB5.out⟩

theorem serve_best {t : Int} {l : Nat → Int} {m : Nat} {f : Nat → Int} {n : Nat} (h : serveB t l m f n = true) (hm : 0 < m) :
    fewOk t l m = true ∧ cntM t (fewM l m) ≤ n ∧ ∀ k, k < cntM t (fewM l m) → f k ≤ mulM (fewM l m) k := by
  obtain ⟨h1, h2, h3⟩ := serveB_iff.1 h
  obtain ⟨⟨t1, t2⟩, _, _⟩ := gapOk_iff.1 h1
  obtain ⟨b1, b2⟩ := fewM_bound h2 hm
  refine ⟨fewOk_iff.2 ⟨⟨t1, t2⟩, h2, hm⟩, ?_⟩
  obtain ⟨i, hi, e⟩ := minTo_mem l (m - 1)
  have h4 := h3 i (by omega)
  have e2 : fewM l m = l i := e
  exact best_least h1 b1 (by omega)

set_option maxHeartbeats 3200000 in
theorem law_ServiceOk {w : World} {A : Option Addr} {n c : Nat} {h : Nat → Int} (hc : n ≤ c) (hs : Bytes w w.heap.size A n h) :
    Calls Try.prog 12 #[.slice A n c] w fun e w' => e = .returned (.bool true) ∧ Below w.heap.size w w' := by
  by_cases h20 : n ≤ 1048576
  · go_enter Try.func12, Try.ntmps12
    go_wp2_with fail
    refine (DrawServiceOk_any (Nat.le_refl _) hc hs).mono ?_
    rintro e w1 ⟨t, A1, m, c1, l, A2, n2, c2, f, rfl, hm, hr1, hn2, hs1, hb1⟩
    have HB1 := Lib.hid hb1
    have HL1 := Lib.hid hr1
    have HS1 := Lib.hid hs1
    have hsz1 := hb1.size
    clear hb1 hr1 hs1
    go_wp2_with fail
    refine (impl_ServiceOk t (by omega) HL1.out.ints (by omega) HS1.out.ints).mono ?_
    rintro e w2 ⟨rfl, rfl⟩
    go_wp2_with fail
    refine (spec_ServiceOk t (by omega) HL1.out.ints (by omega) HS1.out.ints).mono ?_
    rintro e w2 ⟨rfl, j2, rfl⟩
    have HB2 := Lib.hid (below_drewN HB1.out j2)
    have HL2 := Lib.hid (HL1.out.drewN j2)
    have HS2 := Lib.hid (HS1.out.drewN j2)
    clear HB1 HL1 HS1
    generalize w1.drewN j2 = w2 at *
    cases hv : serveB t l m f n2
    · go_wp2_with fail
      refine alive_any.mono ?_
      rintro e w3 ⟨rfl, hb3⟩
      have HB3 := Lib.hid (HB2.out.trans (hb3.mono HB2.out.size))
      clear hb3
      go_wp2
      go_ret
      exact ⟨rfl, HB3.out⟩
    · by_cases h0 : m = 0
      · have u0 : ((m : Int) == 0) = true := by simp; omega
        clear h0 hv
        go_wp2_with fail
        refine alive_any.mono ?_
        rintro e w3 ⟨rfl, hb3⟩
        have HB3 := Lib.hid (HB2.out.trans (hb3.mono HB2.out.size))
        clear hb3
        go_wp2
        go_ret
        exact ⟨rfl, HB3.out⟩
      · have u0 : ((m : Int) == 0) = false := by simp; omega
        obtain ⟨hf, hle, hbest⟩ := serve_best hv (by omega)
        have HV := Lib.hid (few_serve hf)
        have e1 := fewN_yes hf
        have hN39 : cntM t (fewM l m) ≤ 39 := by
          obtain ⟨⟨t1, t2⟩, hp, h0⟩ := fewOk_iff.1 hf
          exact cntM_le t2 (fewM_bound hp h0).1
        have HBest := Lib.hid hbest
        clear hv hf h0 hbest
        go_wp2_with fail
        refine (impl_FewestStops t (by omega) (Nat.le_refl _) HL2.out.ints).mono ?_
        rintro e w3 ⟨A3, c3, rfl, hr3, hb3⟩
        rw [e1] at hr3
        rw [e1]
        generalize mulM (fewM l m) = F at *
        generalize cntM t (fewM l m) = N at *
        clear e1
        have HB3 := Lib.hid (HB2.out.trans (hb3.mono HB2.out.size))
        have HL3 := Lib.hid (HL2.out.below hb3 (Nat.le_refl _))
        have HS3 := Lib.hid (HS2.out.below hb3 (Nat.le_refl _))
        have HF3 := Lib.hid hr3
        clear hr3 hb3 HL2 HS2 HB2
        have u4 : ¬ n2 < N := by omega
        have u5 : decide (n2 < N) = false := by simp; omega
        go_wp2
        clear u0 u4 u5
        go_loopw [8] (fun s8 wr => ∃ k : Nat, s8 = .int .i64 k ∧ k ≤ N ∧ Drew w3 wr) (fun s8 _ => N - (intOf s8).toNat)
        case atStart => exact ⟨0, rfl, by omega, Drew.refl _⟩
        case round =>
          obtain ⟨k, rfl, hk, j, rfl⟩ := hrel
          by_cases hlt : k < N
          · obtain ⟨b, rfl, hbb, hbl⟩ := HF3.out.form (by omega)
            obtain ⟨b', rfl, hbb', hbl'⟩ := HS3.out.form (by omega)
            have z1 := HF3.out.cell hlt
            have z2 := HS3.out.cell (k := k) (by omega)
            have z3 := HBest.out k hlt
            have z4 : ¬ F k < f k := by omega
            have k1 : (0 : Int) ≤ (k : Int) := by omega
            have k2 : (k : Int) < N := by omega
            have k3 : (k : Int) < n2 := by omega
            have k4 : k < n2 := by omega
            clear z3
            go_wp2
            go_quiet (fail)
            go_wp2
            go_roundw
            case rel => exact ⟨k + 1, by go_num, by omega, by first | exact ⟨_, rfl⟩ | exact ⟨_, World.drewN_drewN _ _ _⟩⟩
            case measure => simp [intOf] <;> omega
          · obtain rfl : k = N := by omega
            go_wp2_with fail
            refine (impl_ServiceOk (f := F) t (by omega) (HL3.out.drewN j).ints (by omega) (HF3.out.drewN j).ints).mono ?_
            rintro e w6 ⟨rfl, rfl⟩
            rw [HV.out]
            go_wp2
            go_ret
            exact ⟨rfl, below_drewN HB3.out j⟩
  · go_enter Try.func12, Try.ntmps12
    go_wp2
    go_ret
    exact ⟨rfl, Below.refl _ _⟩
end Go.Proofs.Ytnpignenikkmiaa
