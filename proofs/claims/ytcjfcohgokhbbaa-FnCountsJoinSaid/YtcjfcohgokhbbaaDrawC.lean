/-
  The contracts of the drawings of counts and times. No claim stands here.
-/
import Derived.Test.YtcjfcohgokhbbaaSeg
import Derived.Deep.RegionWith
namespace Go.Proofs.Ytcjfcohgokhbbaa
open Go.RowKit
set_option linter.unusedVariables false
set_option linter.unusedSimpArgs false

theorem Reads.drew {w : World} {g Q : Nat} (r : Reads w g Q) : Reads w.drew g Q := r.drewN 1

set_option maxHeartbeats 3200000 in
theorem l20Counts_any {w : World} {g Q : Nat} (N : Int) (h0 : 0 ≤ N) (hN : N ≤ 1000000000) (hQ : Q + 40 ≤ 1000000) (r : Reads w g Q) :
    Calls Try.prog 36 #[.pointer (some ⟨g, 0, none⟩), .int .i64 N] w (DrawnS 20 (Q + 40) w g) := by
  have hgl := r.lt
  have H := Lib.hid (r.alloc (.cells #[] 3))
  clear r
  go_enter Try.func36, Try.ntmps36
  go_wp2_with fail
  go_at_call 40
  refine (H.out.pick _ (by omega) (by omega)).mono ?_
  rintro e w1 ⟨x1, rfl, hp1, hr1, hg1⟩
  have ho1 := ((Only.refl w.heap.size g w).alloc (Nat.le_refl _) (.cells #[] 3)).picked hg1 (by simp)
  have hrow1 := (Row.empty (w := w) (base := w.heap.size) (fun _ => 0) (Nat.le_refl _)).kept hg1 (.inr (by intro b e; cases e; left; omega))
  clear hp1 hg1
  go_wp2
  go_loopw [5, 7] (fun s5 s7 wr => ∃ (k : Nat) (A : Option Addr) (c : Nat) (f : Nat → Int), s7 = .int .i64 k ∧ k ≤ 16 ∧ s5 = .slice A k c ∧ Row wr w.heap.size A k c f ∧ Reads wr g (Q + 1 + 2 * k) ∧ Only w.heap.size g w wr) (fun _ s7 _ => 16 - (intOf s7).toNat)
  case atStart => exact ⟨0, _, _, _, rfl, by omega, rfl, hrow1, hr1, ho1⟩
  case round =>
    obtain ⟨k, A, c, f, rfl, hk, rfl, hrow, hr, ho⟩ := hrel
    clear hrow1 hr1 ho1 H
    by_cases hlt : k < 16
    · have HRow := Lib.hid hrow
      have HR := Lib.hid hr
      have HO := Lib.hid ho
      have hsz := ho.size
      clear hrow hr ho
      go_wp2_with fail
      go_at_call 40
      refine (HR.out.pick _ (by omega) (by omega)).mono ?_
      rintro e w2 ⟨x2, rfl, hp2, hr2, hg2⟩
      have HO2 := Lib.hid (HO.out.picked hg2 hsz)
      have HRow2 := Lib.hid (HRow.out.kept hg2 (.inr (by intro b e; cases e; left; omega)))
      have HR2 := Lib.hid hr2
      have hsz2 := HO2.out.size
      clear hp2 hr2 hg2 HO HRow HR
      by_cases hlx : x2 < x1
      · go_wp2_with fail
        go_at_call 40
        refine (HR2.out.pick _ (by omega) (by omega)).mono ?_
        rintro e w3 ⟨x3, rfl, hp3, hr3, hg3⟩
        have HO3 := Lib.hid (HO2.out.picked hg3 hsz2)
        have HRow3 := Lib.hid (HRow2.out.kept hg3 (.inr (by intro b e; cases e; left; omega)))
        have HR3 := Lib.hid hr3
        have hsz3 := HO3.out.size
        clear hp3 hr3 hg3 HO2 HRow2 HR2
        go_wp2_with (at_builtin; refine append_int _ rfl _ _ rfl rfl (HRow3.out.alloc _) w3.heap.size x3 rfl (by simp) (by omega) (by simp; omega) ?_; intro A4 c4 w4 hr4 hg4)
        have HO4 := Lib.hid ((HO3.out.alloc hsz3 _).grown hg4 (by simp; omega) (fun b e => .inl (HRow3.out.own b e)))
        have HR4 := Lib.hid ((HR3.out.alloc _).grown (base := w.heap.size) hg4 hgl HRow3.out.own)
        have HRow4 := Lib.hid hr4
        clear hr4 hg4
        go_wp2
        go_roundw
        case rel => exact ⟨k + 1, A4, c4, _, by go_num, by omega, rfl, HRow4.out, HR4.out.mono (by omega), HO4.out⟩
        case measure => simp [intOf]; omega
      · go_wp2_with (at_builtin; refine append_int _ rfl _ _ rfl rfl (HRow2.out.alloc _) w2.heap.size 0 rfl (by simp) (by omega) (by simp; omega) ?_; intro A4 c4 w4 hr4 hg4)
        have HO4 := Lib.hid ((HO2.out.alloc hsz2 _).grown hg4 (by simp; omega) (fun b e => .inl (HRow2.out.own b e)))
        have HR4 := Lib.hid ((HR2.out.alloc _).grown (base := w.heap.size) hg4 hgl HRow2.out.own)
        have HRow4 := Lib.hid hr4
        clear hr4 hg4
        go_wp2
        go_roundw
        case rel => exact ⟨k + 1, A4, c4, _, by go_num, by omega, rfl, HRow4.out, HR4.out.mono (by omega), HO4.out⟩
        case measure => simp [intOf]; omega
    · obtain rfl : k = 16 := by omega
      have HRow := Lib.hid hrow
      have HR := Lib.hid hr
      have HO := Lib.hid ho
      have hsz := ho.size
      clear hrow hr ho
      go_wp2_with fail
      go_at_call 41
      refine (HR.out.odd _ h0 hN (by omega)).mono ?_
      rintro e w2 ⟨b, rfl, hr2, hg2⟩
      have HO2 := Lib.hid (HO.out.picked hg2 hsz)
      have HRow2 := Lib.hid (HRow.out.kept hg2 (.inr (by intro b e; cases e; left; omega)))
      have HR2 := Lib.hid hr2
      have hsz2 := HO2.out.size
      clear hr2 hg2 HO HRow HR
      cases b
      · go_wp2
        go_ret
        exact ⟨A, 16, c, f, rfl, by omega, HRow2.out.seg, HR2.out.mono (by omega), HO2.out.grow⟩
      · go_wp2_with fail
        go_at_call 40
        refine (HR2.out.pick _ (by omega) (by omega)).mono ?_
        rintro e w3 ⟨x3, rfl, hp3, hr3, hg3⟩
        have HO3 := Lib.hid (HO2.out.picked hg3 hsz2)
        have HRow3 := Lib.hid (HRow2.out.kept hg3 (.inr (by intro b e; cases e; left; omega)))
        have HR3 := Lib.hid hr3
        have hsz3 := HO3.out.size
        clear hp3 hr3 hg3 HO2 HRow2 HR2
        obtain ⟨b, rfl, hbb, hbl⟩ := HRow3.out.form (by omega)
        have hcap : 16 ≤ c := HRow3.out.cap.1
        by_cases e0 : x3 = 0
        · subst e0
          have hseg := HRow3.out.seg.from 1 (by omega)
          rw [Nat.zero_add] at hseg
          have HS := Lib.hid hseg
          clear hseg
          have q1 : (16 : Int) ≤ c := by omega
          have q2 : ¬ (c - 1 = 0) := by omega
          go_wp2
          go_ret
          exact ⟨_, 15, _, _, rfl, by omega, HS.out, HR3.out.mono (by omega), HO3.out.grow⟩
        · have e0' : (x3 == 0) = false := by simpa using e0
          clear e0
          by_cases e1 : x3 = 1
          · subst e1
            clear e0'
            go_wp2_with fail
            refine ((HR3.out.alloc _).pick _ (by omega) (by omega)).mono ?_
            rintro e w4 ⟨x4, rfl, hp4, hr4, hg4⟩
            obtain ⟨p5, p6⟩ := picked_litS hp4 (by omega)
            obtain ⟨z, rfl⟩ := Int.eq_ofNat_of_zero_le p5
            obtain ⟨X, -, hX⟩ := lit_two hg4 (by omega) p6
            have hO4 := (HO3.out.alloc hsz3 _).picked hg4 (by simp; omega)
            have hrow4 := (HRow3.out.alloc _).kept hg4 (.inr (by intro b e; cases e; left; omega))
            have hsz4 := hO4.size
            have z1 := hrow4.cell (k := 0) (by omega)
            have z2 := hrow4.frozen 0
            have hst := hrow4.set (k := 0) X
            have HO4 := Lib.hid (hO4.grown hst.2 hsz4 (by intro k e; cases e; exact .inl hbb))
            have HR4 := Lib.hid (hr4.grown (base := w.heap.size) hst.2 hgl (by intro k e; cases e; exact hbb))
            have HS4 := Lib.hid hst.1.seg
            clear hp4 hr4 hg4 HO3 HRow3 HR3 hO4 hrow4 hst
            go_wp2
            go_ret
            exact ⟨_, 16, _, _, rfl, by omega, HS4.out, HR4.out.mono (by omega), HO4.out.grow⟩
          · have e1' : (x3 == 1) = false := by simpa using e1
            clear e1
            go_wp2_with (at_builtin; refine append_int _ rfl _ _ rfl rfl (HRow3.out.alloc _) w3.heap.size 0 rfl (by simp) (by omega) (by simp; omega) ?_; intro A4 c4 w4 hr4 hg4)
            have HO4 := Lib.hid ((HO3.out.alloc hsz3 _).grown hg4 (by simp; omega) (fun b e => .inl (HRow3.out.own b e)))
            have HR4 := Lib.hid ((HR3.out.alloc _).grown (base := w.heap.size) hg4 hgl HRow3.out.own)
            have HRow4 := Lib.hid hr4
            clear hr4 hg4
            go_wp2
            go_ret
            exact ⟨A4, 17, c4, _, rfl, by omega, HRow4.out.seg, HR4.out.mono (by omega), HO4.out.grow⟩

theorem DrawCountsValid_any {w : World} {B : Nat} {A : Option Addr} {n c : Nat} {h : Nat → Int} (hB : B ≤ w.heap.size) (hc : n ≤ c) (hs : Bytes w B A n h) :
    Calls Try.prog 24 #[.slice A n c] w fun e w' => ∃ A1 n1 c1 f, e = .returned (.slice A1 n1 c1) ∧ n1 ≤ 20 ∧ Seg w' w.heap.size A1 n1 c1 f ∧ Below w.heap.size w w' := by
  have HS := Lib.hid hs
  clear hs
  go_enter Try.func24, Try.ntmps24
  go_wp2_with fail
  refine (l20Open_any hB hc HS.out).mono ?_
  rintro e w1 ⟨g, rfl, hg, hr1, hb1⟩
  have HR1 := Lib.hid hr1
  have HB1 := Lib.hid hb1
  have hsz := hb1.size
  clear hr1 hb1
  go_wp2_with fail
  refine (l20Counts_any _ (by omega) (by omega) (by omega) HR1.out).mono ?_
  rintro e w2 ⟨A2, n2, c2, f2, rfl, hn2, hr2, hrd2, hg2⟩
  have HB2 := Lib.hid (HB1.out.grown hg2 hsz (by intro b e; cases e; exact hg))
  have HR2 := Lib.hid (hr2.mono hsz)
  clear hr2 hrd2 hg2
  go_wp2
  go_ret
  exact ⟨A2, n2, c2, f2, rfl, hn2, HR2.out, HB2.out⟩
theorem DrawCountsAll_any {w : World} {B : Nat} {A : Option Addr} {n c : Nat} {h : Nat → Int} (hB : B ≤ w.heap.size) (hc : n ≤ c) (hs : Bytes w B A n h) :
    Calls Try.prog 30 #[.slice A n c] w fun e w' => ∃ A1 n1 c1 f, e = .returned (.slice A1 n1 c1) ∧ n1 ≤ 20 ∧ Seg w' w.heap.size A1 n1 c1 f ∧ Below w.heap.size w w' := by
  have HS := Lib.hid hs
  clear hs
  go_enter Try.func30, Try.ntmps30
  go_wp2_with fail
  refine (l20Open_any hB hc HS.out).mono ?_
  rintro e w1 ⟨g, rfl, hg, hr1, hb1⟩
  have HR1 := Lib.hid hr1
  have HB1 := Lib.hid hb1
  have hsz := hb1.size
  clear hr1 hb1
  go_wp2_with fail
  refine (l20Counts_any _ (by omega) (by omega) (by omega) HR1.out).mono ?_
  rintro e w2 ⟨A2, n2, c2, f2, rfl, hn2, hr2, hrd2, hg2⟩
  have HB2 := Lib.hid (HB1.out.grown hg2 hsz (by intro b e; cases e; exact hg))
  have HR2 := Lib.hid (hr2.mono hsz)
  clear hr2 hrd2 hg2
  go_wp2
  go_ret
  exact ⟨A2, n2, c2, f2, rfl, hn2, HR2.out, HB2.out⟩

set_option maxHeartbeats 3200000 in
theorem DrawCountsOf_any {w : World} {B : Nat} {A : Option Addr} {n c : Nat} {h : Nat → Int} (hB : B ≤ w.heap.size) (hc : n ≤ c) (hs : Bytes w B A n h) :
    Calls Try.prog 28 #[.slice A n c] w fun e w' => ∃ A1 n1 c1 f, e = .returned (.slice A1 n1 c1) ∧ n1 ≤ 16 ∧ Row w' w.heap.size A1 n1 c1 f ∧ Below w.heap.size w w' := by
  have HS := Lib.hid hs
  clear hs
  go_enter Try.func28, Try.ntmps28
  go_wp2_with fail
  refine (l20Open_any hB hc HS.out).mono ?_
  rintro e w0 ⟨g, rfl, hg, hr0, hb0⟩
  have HR0 := Lib.hid (hr0.alloc (.cells #[] 3))
  have HB0 := Lib.hid hb0
  have hsz0 := hb0.size
  have hgl0 := hr0.lt
  clear hr0 hb0
  go_wp2_with fail
  refine (HR0.out.pick _ (by omega) (by omega)).mono ?_
  rintro e w1 ⟨x1, rfl, hp1, hr1, hg1⟩
  obtain ⟨p1, p2⟩ := picked_litS hp1 (by omega)
  have ho1 := ((Only.refl w0.heap.size g w0).alloc (Nat.le_refl _) (.cells #[] 3)).picked hg1 (by simp)
  have hrow1 := (Row.empty (w := w0) (base := w0.heap.size) (fun _ => 0) (Nat.le_refl _)).kept hg1 (.inr (by intro b e; cases e; left; omega))
  clear hp1 hg1
  obtain ⟨k1, rfl⟩ := Int.eq_ofNat_of_zero_le p1
  go_wp2
  go_loopw [4, 5] (fun s4 s5 wr => ∃ (k i : Nat) (A : Option Addr) (c : Nat) (f : Nat → Int), s5 = .int .i64 k ∧ i + k ≤ 16 ∧ s4 = .slice A i c ∧ Row wr w0.heap.size A i c f ∧ Reads wr g (1 + 2 * i) ∧ Only w0.heap.size g w0 wr) (fun _ s5 _ => (intOf s5).toNat)
  case atStart => exact ⟨k1, 0, _, _, _, rfl, by omega, rfl, hrow1, hr1.mono (by omega), ho1⟩
  case round =>
    obtain ⟨k, i, A, c, f, rfl, hik, rfl, hrow, hr, ho⟩ := hrel
    clear hrow1 hr1 ho1 HR0
    by_cases hk : 0 < k
    · have HRow := Lib.hid hrow
      have HR := Lib.hid hr
      have HO := Lib.hid ho
      have hsz := ho.size
      clear hrow hr ho
      go_wp2_with fail
      refine (HR.out.pick _ (by omega) (by omega)).mono ?_
      rintro e w2 ⟨x2, rfl, hp2, hr2, hg2⟩
      obtain ⟨p3, p4⟩ := picked_litS hp2 (by omega)
      have HO2 := Lib.hid (HO.out.picked hg2 hsz)
      have HRow2 := Lib.hid (HRow.out.kept hg2 (.inr (by intro b e; cases e; left; omega)))
      have HR2 := Lib.hid hr2
      have hsz2 := HO2.out.size
      clear hp2 hr2 hg2 HO HRow HR
      go_wp2_with fail
      refine (HR2.out.pick _ (by omega) (by omega)).mono ?_
      rintro e w3 ⟨x3, rfl, hp3, hr3, hg3⟩
      obtain ⟨p5, p6⟩ := picked_litS hp3 (by omega)
      have HO3 := Lib.hid (HO2.out.picked hg3 hsz2)
      have HRow3 := Lib.hid (HRow2.out.kept hg3 (.inr (by intro b e; cases e; left; omega)))
      have HR3 := Lib.hid hr3
      have hsz3 := HO3.out.size
      clear hp3 hr3 hg3 HO2 HRow2 HR2
      go_wp2_with (at_builtin; refine append_int _ rfl _ _ rfl rfl (HRow3.out.alloc _) w3.heap.size _ rfl (by simp; rfl) (by omega) (by simp; omega) ?_; intro A4 c4 w4 hr4 hg4)
      have HO4 := Lib.hid ((HO3.out.alloc hsz3 _).grown hg4 (by simp; omega) (fun b e => .inl (HRow3.out.own b e)))
      have HR4 := Lib.hid ((HR3.out.alloc _).grown (base := w0.heap.size) hg4 hgl0 HRow3.out.own)
      have HRow4 := Lib.hid hr4
      clear hr4 hg4
      go_wp2
      go_roundw
      case rel => exact ⟨k - 1, i + 1, A4, c4, _, by go_num, by omega, rfl, HRow4.out, HR4.out.mono (by omega), HO4.out⟩
      case measure => simp [intOf]; omega
    · obtain rfl : k = 0 := by omega
      have HRow := Lib.hid (hrow.mono hsz0)
      have HB := Lib.hid (HB0.out.grown ho.grow hsz0 (by intro b e; cases e; exact hg))
      clear hrow hr ho
      go_wp2
      go_ret
      exact ⟨A, i, c, f, rfl, by omega, HRow.out, HB.out⟩

set_option maxHeartbeats 3200000 in
theorem DrawCountsJoin_any {w : World} {B : Nat} {A : Option Addr} {n c : Nat} {h : Nat → Int} (hB : B ≤ w.heap.size) (hc : n ≤ c) (hs : Bytes w B A n h) :
    Calls Try.prog 33 #[.slice A n c] w fun e w' => ∃ A1 n1 c1 f A2 n2 c2 f2, e = .returned (.tuple #[.slice A1 n1 c1, .slice A2 n2 c2]) ∧ n1 ≤ 20 ∧ Seg w' w.heap.size A1 n1 c1 f ∧ n2 ≤ 20 ∧ Seg w' w.heap.size A2 n2 c2 f2 ∧ Below w.heap.size w w' := by
  have HS := Lib.hid hs
  clear hs
  go_enter Try.func33, Try.ntmps33
  go_wp2_with fail
  refine (l20Open_any hB hc HS.out).mono ?_
  rintro e w1 ⟨g, rfl, hg, hr1, hb1⟩
  have HR1 := Lib.hid hr1
  have HB1 := Lib.hid hb1
  have hsz := hb1.size
  have hgl := hr1.lt
  clear hr1 hb1
  go_wp2_with fail
  refine (l20Counts_any _ (by omega) (by omega) (by omega) HR1.out).mono ?_
  rintro e w2 ⟨A2, n2, c2, f2, rfl, hn2, hr2, hrd2, hg2⟩
  have HB2 := Lib.hid (HB1.out.grown hg2 hsz (by intro b e; cases e; exact hg))
  have HA2 := Lib.hid hr2
  have HR2 := Lib.hid hrd2
  have hsz12 := hg2.size
  have hsz2 := HB2.out.size
  clear hr2 hrd2 hg2
  go_wp2_with fail
  refine (l20Counts_any _ (by omega) (by omega) (by omega) HR2.out).mono ?_
  rintro e w3 ⟨A3, n3, c3, f3, rfl, hn3, hr3, hrd3, hg3⟩
  have HB3 := Lib.hid (HB2.out.grown hg3 hsz2 (by intro b e; cases e; exact hg))
  have HA3 := Lib.hid (HA2.out.grown hg3 (.inr (by intro b e; cases e; left; omega)))
  have HC3 := Lib.hid hr3
  have HR3 := Lib.hid hrd3
  have hsz23 := hg3.size
  have hsz3 := HB3.out.size
  have hown2 := HA2.out.own
  have HO2 := Lib.hid hown2
  clear hr3 hrd3 hg3 HA2 HR2 hown2
  go_wp2_with fail
  refine (HR3.out.odd _ (by omega) (by omega) (by omega)).mono ?_
  rintro e w4 ⟨bb, rfl, hr4, hg4⟩
  have HB4 := Lib.hid (HB3.out.grown hg4 hsz3 (by intro b e; cases e; exact hg))
  have HA4 := Lib.hid (HA3.out.grown hg4 (.inr (by intro b e; cases e; left; omega)))
  have HC4 := Lib.hid (HC3.out.grown hg4 (.inr (by intro b e; cases e; left; omega)))
  have hsz4 := HB4.out.size
  clear hr4 hg4 HA3 HC3 HR3
  cases bb
  · go_wp2
    go_ret2
    exact ⟨A2, n2, c2, f2, A3, n3, c3, f3, rfl, hn2, HA4.out.mono hsz, hn3, HC4.out.mono hsz2, HB4.out⟩
  · by_cases h0 : 0 < n2
    · have u0 : decide ((0 : Int) < (n2 : Int)) = true := by simp; omega
      obtain ⟨b, off, rfl, hbb, hbl⟩ := HA4.out.form h0
      have z1 : w4.cell? ⟨b, off, none⟩ = some (.int .i64 (f2 0)) := HA4.out.cell (k := 0) h0
      have z2 := (HA4.out.own b off none rfl).2.2 off
      have hst := HA4.out.set (k := 0) h0 999
      rw [Nat.add_zero] at hst
      have hb2 := (HO2.out b off none rfl).2.1
      have HS4 := Lib.hid (hst.1.mono hsz)
      have HC5 := Lib.hid ((HC4.out.grown hst.2 (.inr (by intro k e; cases e; left; omega))).mono hsz2)
      have HB5 := Lib.hid (HB4.out.grown hst.2 hsz4 (by intro k e; cases e; omega))
      clear hst HA4 HC4 HB4
      go_wp2
      go_ret2
      exact ⟨_, n2, c2, _, A3, n3, c3, f3, rfl, hn2, HS4.out, hn3, HC5.out, HB5.out⟩
    · have u0 : decide ((0 : Int) < (n2 : Int)) = false := by simp; omega
      go_wp2
      go_ret2
      exact ⟨A2, n2, c2, f2, A3, n3, c3, f3, rfl, hn2, HA4.out.mono hsz, hn3, HC4.out.mono hsz2, HB4.out⟩
theorem lit_five {w w' : World} {g z : Nat} {a b c d e : Int} (hg : (w.alloc (.cells #[.int .i64 a, .int .i64 b, .int .i64 c, .int .i64 d, .int .i64 e] 3)).grownBy w' (some g)) (hgl : g < w.heap.size) (hz : (z : Int) < 5) :
    ∃ X, w'.cell? ⟨w.heap.size, z, none⟩ = some (.int .i64 X) := by
  match z, hz with
  | 0, _ => exact ⟨a, lit_cell hg hgl rfl⟩
  | 1, _ => exact ⟨b, lit_cell hg hgl rfl⟩
  | 2, _ => exact ⟨c, lit_cell hg hgl rfl⟩
  | 3, _ => exact ⟨d, lit_cell hg hgl rfl⟩
  | 4, _ => exact ⟨e, lit_cell hg hgl rfl⟩
  | z + 5, h => omega
theorem lit_five_new {z : Nat} (e : Int) (hz : (z : Int) < 5) :
    ∃ X, ∀ w : World, (w.alloc (.cells #[.int .i64 0, .int .i64 50, .int .i64 90, .int .i64 100, .int .i64 e] 3)).cell? ⟨w.heap.size, z, none⟩ = some (.int .i64 X) := by
  match z, hz with
  | 0, _ => exact ⟨0, fun w => by rw [cell_of_row _ w.heap.size 0 _ 3 (0, 0) (by show (w.heap.push _)[w.heap.size]? = _; simp; rfl)]; rfl⟩
  | 1, _ => exact ⟨50, fun w => by rw [cell_of_row _ w.heap.size 1 _ 3 (0, 0) (by show (w.heap.push _)[w.heap.size]? = _; simp; rfl)]; rfl⟩
  | 2, _ => exact ⟨90, fun w => by rw [cell_of_row _ w.heap.size 2 _ 3 (0, 0) (by show (w.heap.push _)[w.heap.size]? = _; simp; rfl)]; rfl⟩
  | 3, _ => exact ⟨100, fun w => by rw [cell_of_row _ w.heap.size 3 _ 3 (0, 0) (by show (w.heap.push _)[w.heap.size]? = _; simp; rfl)]; rfl⟩
  | 4, _ => exact ⟨e, fun w => by rw [cell_of_row _ w.heap.size 4 _ 3 (0, 0) (by show (w.heap.push _)[w.heap.size]? = _; simp; rfl)]; rfl⟩
  | z + 5, h => omega
set_option maxHeartbeats 3200000 in
theorem DrawPercentile_any {w : World} {B : Nat} {A : Option Addr} {n c : Nat} {h : Nat → Int} (hB : B ≤ w.heap.size) (hc : n ≤ c) (hs : Bytes w B A n h) :
    Calls Try.prog 32 #[.slice A n c] w fun e w' => ∃ A1 n1 c1 f pc, e = .returned (.tuple #[.slice A1 n1 c1, .int .i64 pc]) ∧ n1 ≤ 20 ∧ Seg w' w.heap.size A1 n1 c1 f ∧ Below w.heap.size w w' := by
  have HS := Lib.hid hs
  clear hs
  go_enter Try.func32, Try.ntmps32
  go_wp2_with fail
  refine (l20Open_any hB hc HS.out).mono ?_
  rintro e w1 ⟨g, rfl, hg, hr1, hb1⟩
  have HR1 := Lib.hid hr1
  have HB1 := Lib.hid hb1
  have hsz := hb1.size
  have hgl := hr1.lt
  clear hr1 hb1
  go_wp2
  go_region_with (first
    | (go_at_call 36; refine (l20Counts_any _ (by omega) (by omega) (by omega) HR1.out.drew).mono ?_; rintro e w2 ⟨A2, n2, c2, f2, rfl, hn2, hr2, hrd2, hg2⟩)
    | (go_at_call 40; ((with_reducible refine (hrd2.pick 103 (by omega) (by omega)).mono ?_); rintro e w3 ⟨x3, rfl, hp3, hr3, hg3⟩))
    | (go_at_call 40; ((with_reducible refine ((hr3.alloc _).pick 5 (by omega) (by omega)).mono ?_); rintro e w4 ⟨x4, rfl, hp4, hr4, hg4⟩; obtain ⟨p1, p2⟩ := picked_litS hp4 (by omega); obtain ⟨z, rfl⟩ := Int.eq_ofNat_of_zero_le p1; obtain ⟨X, hX⟩ := lit_five hg4 hr3.lt p2))
    | (go_at_call 40; ((with_reducible refine (hr3.pick 5 (by omega) (by omega)).mono ?_); rintro e w4 ⟨x4, rfl, hp4, hr4, hg4⟩; obtain ⟨p1, p2⟩ := picked_litS hp4 (by omega); obtain ⟨z, rfl⟩ := Int.eq_ofNat_of_zero_le p1; obtain ⟨X, hX⟩ := lit_five_new (IntKind.i64.wrap (x3 - 1)) p2)))
  all_goals
    have hb2 : Below w.heap.size w w2 := HB1.out.drew.grown hg2 hsz (by intro b e; cases e; exact hg)
    have hb3 : Below w.heap.size w w3 := hb2.grown hg3 hb2.size (by intro b e; cases e; exact hg)
    have hs3 := hr2.grown hg3 (.inr (by intro b e; cases e; left; exact hgl))
    have HF : Hid (Seg w4 w.heap.size A2 n2 c2 f2 ∧ Below w.heap.size w w4) := by
      first
        | exact ⟨((hs3.alloc _).grown hg4 (.inr (by intro b e; cases e; left; exact hgl))).mono hsz, (hb3.alloc hb3.size _).grown hg4 (by have := hb3.size; simp; omega) (by intro b e; cases e; exact hg)⟩
        | exact ⟨(hs3.grown hg4 (.inr (by intro b e; cases e; left; exact hgl))).mono hsz, hb3.grown hg4 hb3.size (by intro b e; cases e; exact hg)⟩
    clear hr2 hrd2 hg2 hr3 hg3 hr4 hg4 hs3 hb2 hb3 hX
    go_wp2
    go_ret2
    first
      | exact ⟨A2, n2, c2, f2, X, rfl, hn2, HF.out.1, HF.out.2⟩
      | exact ⟨A2, n2, c2, f2, X, rfl, hn2, HF.out.1.alloc _, HF.out.2.alloc HF.out.2.size _⟩
end Go.Proofs.Ytcjfcohgokhbbaa
