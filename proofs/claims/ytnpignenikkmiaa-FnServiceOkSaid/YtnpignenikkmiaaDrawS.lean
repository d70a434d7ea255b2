/-
  The contracts of the drawings of trips, parts and stops. No claim stands here.
-/
import Derived.Test.YtnpignenikkmiaaOpen
import Derived.Test.YtnpignenikkmiaaServe
namespace Go.Proofs.Ytnpignenikkmiaa
open Go.RowKit
set_option linter.unusedVariables false
set_option linter.unusedSimpArgs false

/-- What a drawing of a list leaves: a row of the call's own of at most N numbers, the reader at most at Q. -/
def Drawn (N Q : Nat) (w : World) (g : Nat) (e : Ending) (w' : World) : Prop :=
  ∃ A n c f, e = .returned (.slice A n c) ∧ n ≤ N ∧ Row w' w.heap.size A n c f ∧ Reads w' g Q ∧ w.grownBy w' (some g)

theorem picked_lit {N x : Int} (h : Picked N x) (hN : 1 ≤ N) : 0 ≤ x ∧ x < N := ⟨h.1, h.2.1 hN⟩

set_option maxHeartbeats 3200000 in
theorem l20Trips_any {w : World} {g Q : Nat} (hQ : Q + 3 ≤ 1000000) (r : Reads w g Q) :
    Calls Try.prog 41 #[.pointer (some ⟨g, 0, none⟩)] w fun e w' => ∃ x, e = .returned (.int .i64 x) ∧ Reads w' g (Q + 3) ∧ w.grownBy w' (some g) := by
  have H := Lib.hid r
  clear r
  go_enter Try.func41, Try.ntmps41
  go_wp2_with fail
  go_at_call 42
  refine (H.out.pick _ (by omega) (by omega)).mono ?_
  rintro e w1 ⟨x1, rfl, hp1, hr1, hg1⟩
  obtain ⟨p1, p2⟩ := picked_lit hp1 (by omega)
  have HR1 := Lib.hid hr1
  have HG1 := Lib.hid hg1
  clear hp1 hr1 hg1
  go_wp2_with fail
  go_at_call 42
  refine (HR1.out.pick _ (by omega) (by omega)).mono ?_
  rintro e w2 ⟨x2, rfl, hp2, hr2, hg2⟩
  obtain ⟨p3, p4⟩ := picked_lit hp2 (by omega)
  have HR2 := Lib.hid hr2
  have HG2 := Lib.hid hg2
  clear hp2 hr2 hg2
  go_wp2_with fail
  go_at_call 42
  refine (HR2.out.pick _ (by omega) (by omega)).mono ?_
  rintro e w3 ⟨x3, rfl, hp3, hr3, hg3⟩
  obtain ⟨p5, p6⟩ := picked_lit hp3 (by omega)
  have HR3 := Lib.hid hr3
  have HG3 := Lib.hid hg3
  clear hp3 hr3 hg3
  go_wp2
  go_ret
  exact ⟨_, rfl, HR3.out, (HG1.out.trans HG2.out).trans HG3.out⟩

set_option maxHeartbeats 3200000 in
theorem l20Stands_any {w : World} {g Q : Nat} (N : Int) (h0 : 0 ≤ N) (hN : N ≤ 1000000000) (hQ : Q + 20 ≤ 1000000) (r : Reads w g Q) :
    Calls Try.prog 36 #[.pointer (some ⟨g, 0, none⟩), .int .i64 N] w (Drawn 20 (Q + 20) w g) := by
  have hgl := r.lt
  have H := Lib.hid (r.alloc (.cells #[] 3))
  clear r
  go_enter Try.func36, Try.ntmps36
  go_wp2_with fail
  go_at_call 42
  refine (H.out.pick _ (by omega) (by omega)).mono ?_
  rintro e w1 ⟨x1, rfl, hp1, hr1, hg1⟩
  obtain ⟨p1, p2⟩ := picked_lit hp1 (by omega)
  have ho1 := ((Only.refl w.heap.size g w).alloc (Nat.le_refl _) (.cells #[] 3)).picked hg1 (by simp)
  have hrow1 := (Row.empty (w := w) (base := w.heap.size) (fun _ => 0) (Nat.le_refl _)).kept hg1 (.inr (by intro b e; cases e; left; omega))
  clear hp1 hg1
  obtain ⟨k1, rfl⟩ := Int.eq_ofNat_of_zero_le p1
  go_wp2
  go_loopw [5, 6, 7] (fun s5 s6 s7 wr => ∃ (k i n : Nat) (A : Option Addr) (c : Nat) (f : Nat → Int) (a : Nat), s7 = .int .i64 k ∧ i + k ≤ 8 ∧ s5 = .slice A n c ∧ n ≤ i ∧ s6 = .int .i64 a ∧ a ≤ 8 * i ∧ Row wr w.heap.size A n c f ∧ Reads wr g (Q + 1 + i) ∧ Only w.heap.size g w wr) (fun _ _ s7 _ => (intOf s7).toNat)
  case atStart => exact ⟨k1, 0, 0, _, _, _, 0, rfl, by omega, rfl, Nat.le_refl _, rfl, by omega, hrow1, hr1, ho1⟩
  case round =>
    obtain ⟨k, i, n, A, c, f, a, rfl, hik, rfl, hni, rfl, hai, hrow, hr, ho⟩ := hrel
    clear hrow1 hr1 ho1 H
    by_cases hk : 0 < k
    · have HRow := Lib.hid hrow
      have HR := Lib.hid hr
      have HO := Lib.hid ho
      have hsz := ho.size
      clear hrow hr ho
      go_wp2_with fail
      go_at_call 42
      refine (HR.out.pick _ (by omega) (by omega)).mono ?_
      rintro e w2 ⟨x2, rfl, hp2, hr2, hg2⟩
      obtain ⟨p3, p4⟩ := picked_lit hp2 (by omega)
      have HO2 := Lib.hid (HO.out.picked hg2 hsz)
      have HRow2 := Lib.hid (HRow.out.kept hg2 (.inr (by intro b e; cases e; left; omega)))
      have HR2 := Lib.hid hr2
      have hsz2 := HO2.out.size
      clear hp2 hr2 hg2 HO HRow HR
      obtain ⟨z, rfl⟩ := Int.eq_ofNat_of_zero_le p3
      by_cases h40 : (a : Int) + 1 + z < 40
      · go_wp2_with (at_builtin; refine append_int _ rfl _ _ rfl rfl (HRow2.out.alloc _) w2.heap.size ((a : Int) + 1 + z) rfl (by simp) (by omega) (by simp; omega) ?_; intro A3 c3 w3 hr3 hg3)
        have HO3 := Lib.hid ((HO2.out.alloc hsz2 _).grown hg3 (by simp; omega) (fun b e => .inl (HRow2.out.own b e)))
        have HR3 := Lib.hid ((HR2.out.alloc _).grown (base := w.heap.size) hg3 hgl HRow2.out.own)
        have HRow3 := Lib.hid hr3
        clear hr3 hg3
        go_wp2
        go_roundw
        case rel => exact ⟨k - 1, i + 1, n + 1, A3, c3, _, a + 1 + z, by go_num, by omega, rfl, by omega, by go_num, by omega, HRow3.out, HR3.out.mono (by omega), HO3.out⟩
        case measure => simp [intOf]; omega
      · go_wp2
        go_roundw
        case rel => exact ⟨k - 1, i + 1, n, A, c, _, a + 1 + z, by go_num, by omega, rfl, by omega, by go_num, by omega, HRow2.out, HR2.out.mono (by omega), HO2.out⟩
        case measure => simp [intOf]; omega
    · obtain rfl : k = 0 := by omega
      have HRow := Lib.hid hrow
      have HR := Lib.hid hr
      have HO := Lib.hid ho
      have hsz := ho.size
      clear hrow hr ho
      go_wp2_with fail
      go_at_call 43
      refine (HR.out.odd _ h0 hN (by omega)).mono ?_
      rintro e w2 ⟨b, rfl, hr2, hg2⟩
      have HO2 := Lib.hid (HO.out.picked hg2 hsz)
      have HRow2 := Lib.hid (HRow.out.kept hg2 (.inr (by intro b e; cases e; left; omega)))
      have HR2 := Lib.hid hr2
      have hsz2 := HO2.out.size
      clear hr2 hg2 HO HRow HR
      cases b
      · go_wp2
        go_ret
        exact ⟨A, n, c, f, rfl, by omega, HRow2.out, HR2.out.mono (by omega), HO2.out.grow⟩
      · go_wp2_with fail
        go_at_call 42
        refine ((HR2.out.alloc _).pick _ (by omega) (by omega)).mono ?_
        rintro e w3 ⟨x3, rfl, hp3, hr3, hg3⟩
        obtain ⟨p5, p6⟩ := picked_lit hp3 (by omega)
        obtain ⟨z, rfl⟩ := Int.eq_ofNat_of_zero_le p5
        obtain ⟨X, -, hX⟩ := lit_two hg3 (by omega) p6
        have hO3 := (HO2.out.alloc hsz2 _).picked hg3 (by simp; omega)
        have HRow3 := Lib.hid ((HRow2.out.alloc _).kept hg3 (.inr (by intro b e; cases e; left; omega)))
        have HR3 := Lib.hid hr3
        have hsz3 := hO3.size
        have HO3 := Lib.hid hO3
        clear hp3 hr3 hg3 HO2 HRow2 HR2 hO3
        go_wp2_with (at_builtin; refine append_int _ rfl _ _ rfl rfl (HRow3.out.alloc _) w3.heap.size X rfl (by simp) (by omega) (by simp; omega) ?_; intro A4 c4 w4 hr4 hg4)
        have HO4 := Lib.hid ((HO3.out.alloc hsz3 _).grown hg4 (by simp; omega) (fun b e => .inl (HRow3.out.own b e)))
        have HR4 := Lib.hid ((HR3.out.alloc _).grown (base := w.heap.size) hg4 hgl HRow3.out.own)
        have HRow4 := Lib.hid hr4
        clear hr4 hg4
        go_wp2
        go_ret
        exact ⟨A4, n + 1, c4, _, rfl, by omega, HRow4.out, HR4.out.mono (by omega), HO4.out.grow⟩

set_option maxHeartbeats 3200000 in
theorem l20Lasts_any {w : World} {g Q : Nat} (N : Int) (h0 : 0 ≤ N) (hN : N ≤ 1000000000) (hQ : Q + 20 ≤ 1000000) (r : Reads w g Q) :
    Calls Try.prog 39 #[.pointer (some ⟨g, 0, none⟩), .int .i64 N] w (Drawn 20 (Q + 20) w g) := by
  obtain ⟨i0, hi, hz0, hz1, hz2⟩ := info_parts Try.infoInt
  have hgl := r.lt
  have H := Lib.hid (r.alloc (.cells #[] 3))
  clear r
  go_enter Try.func39, Try.ntmps39
  go_wp2_with fail
  go_at_call 42
  refine (H.out.pick _ (by omega) (by omega)).mono ?_
  rintro e w1 ⟨x1, rfl, hp1, hr1, hg1⟩
  obtain ⟨p1, p2⟩ := picked_lit hp1 (by omega)
  have ho1 := ((Only.refl w.heap.size g w).alloc (Nat.le_refl _) (.cells #[] 3)).picked hg1 (by simp)
  have hrow1 := (Row.empty (w := w) (base := w.heap.size) (fun _ => 0) (Nat.le_refl _)).kept hg1 (.inr (by intro b e; cases e; left; omega))
  clear hp1 hg1
  obtain ⟨k1, rfl⟩ := Int.eq_ofNat_of_zero_le p1
  go_wp2
  go_loopw [5, 6] (fun s5 s6 wr => ∃ (k i n : Nat) (A : Option Addr) (c : Nat) (f : Nat → Int), s6 = .int .i64 k ∧ i + k ≤ 8 ∧ s5 = .slice A n c ∧ n ≤ i ∧ Row wr w.heap.size A n c f ∧ Reads wr g (Q + 1 + i) ∧ Only w.heap.size g w wr) (fun _ s6 _ => (intOf s6).toNat)
  case atStart => exact ⟨k1, 0, 0, _, _, _, rfl, by omega, rfl, Nat.le_refl _, hrow1, hr1, ho1⟩
  case round =>
    obtain ⟨k, i, n, A, c, f, rfl, hik, rfl, hni, hrow, hr, ho⟩ := hrel
    clear hrow1 hr1 ho1 H
    by_cases hk : 0 < k
    · have HRow := Lib.hid hrow
      have HR := Lib.hid hr
      have HO := Lib.hid ho
      have hsz := ho.size
      clear hrow hr ho
      go_wp2_with fail
      go_at_call 42
      refine (HR.out.pick _ (by omega) (by omega)).mono ?_
      rintro e w2 ⟨x2, rfl, hp2, hr2, hg2⟩
      obtain ⟨p3, p4⟩ := picked_lit hp2 (by omega)
      have HO2 := Lib.hid (HO.out.picked hg2 hsz)
      have HRow2 := Lib.hid (HRow.out.kept hg2 (.inr (by intro b e; cases e; left; omega)))
      have HR2 := Lib.hid hr2
      have hsz2 := HO2.out.size
      clear hp2 hr2 hg2 HO HRow HR
      go_wp2_with (at_builtin; refine append_int _ rfl _ _ rfl rfl (HRow2.out.alloc _) w2.heap.size _ rfl (by simp; rfl) (by omega) (by simp; omega) ?_; intro A3 c3 w3 hr3 hg3)
      have HO3 := Lib.hid ((HO2.out.alloc hsz2 _).grown hg3 (by simp; omega) (fun b e => .inl (HRow2.out.own b e)))
      have HR3 := Lib.hid ((HR2.out.alloc _).grown (base := w.heap.size) hg3 hgl HRow2.out.own)
      have HRow3 := Lib.hid hr3
      clear hr3 hg3
      go_wp2
      go_roundw
      case rel => exact ⟨k - 1, i + 1, n + 1, A3, c3, _, by go_num, by omega, rfl, by omega, HRow3.out, HR3.out.mono (by omega), HO3.out⟩
      case measure => simp [intOf]; omega
    · obtain rfl : k = 0 := by omega
      have HRow := Lib.hid hrow
      have HR := Lib.hid hr
      have HO := Lib.hid ho
      have hsz := ho.size
      clear hrow hr ho
      go_wp2_with fail
      go_at_call 43
      refine (HR.out.odd _ h0 hN (by omega)).mono ?_
      rintro e w2 ⟨b, rfl, hr2, hg2⟩
      have HO2 := Lib.hid (HO.out.picked hg2 hsz)
      have HRow2 := Lib.hid (HRow.out.kept hg2 (.inr (by intro b e; cases e; left; omega)))
      have HR2 := Lib.hid hr2
      have hsz2 := HO2.out.size
      clear hr2 hg2 HO HRow HR
      cases b
      · go_wp2
        go_ret
        exact ⟨A, n, c, f, rfl, by omega, HRow2.out, HR2.out.mono (by omega), HO2.out.grow⟩
      · go_wp2_with fail
        go_at_call 42
        refine (HR2.out.pick _ (by omega) (by omega)).mono ?_
        rintro e w3 ⟨x3, rfl, hp3, hr3, hg3⟩
        obtain ⟨p5, p6⟩ := picked_lit hp3 (by omega)
        have hO3 := HO2.out.picked hg3 hsz2
        have HRow3 := Lib.hid (HRow2.out.kept hg3 (.inr (by intro b e; cases e; left; omega)))
        have HR3 := Lib.hid hr3
        have hsz3 := hO3.size
        have HO3 := Lib.hid hO3
        clear hp3 hr3 hg3 HO2 HRow2 HR2 hO3
        by_cases hx : x3 = 0
        · subst hx
          go_wp2_with (at_make; refine wpList_make_full _ rfl _ _ 22 rfl w.heap.size 3 i0 (.int .i64 0) 1 Try.underlying22 hi hz0 hz1 _ _ _ _ 6 rfl rfl rfl rfl (by rw [hz2]; omega) (by unfold maxLen; omega) hsz3 ?_; intro w4 hown hgrow)
          have hrow4 : Row w4 w.heap.size (some ⟨w3.heap.size, 0, none⟩) 6 6 (fun _ => 0) := by
            unfold Row
            rw [← ivals_made]
            exact hown
          have HO4 := Lib.hid (HO3.out.grown hgrow hsz3 (by intro b e; cases e))
          have HR4 := Lib.hid (HR3.out.grown (base := w.heap.size) hgrow hgl (by intro b e; cases e))
          have HRow4 := Lib.hid hrow4
          clear hrow4 hown hgrow
          go_wp2
          go_ret
          exact ⟨_, 6, 6, _, rfl, by omega, HRow4.out, HR4.out.mono (by omega), HO4.out.grow⟩
        · have hx2 : (x3 == 0) = false := by simpa using hx
          clear hx
          go_wp2_with fail
          go_at_call 42
          refine ((HR3.out.alloc _).pick _ (by omega) (by omega)).mono ?_
          rintro e w4 ⟨x4, rfl, hp4, hr4, hg4⟩
          obtain ⟨p7, p8⟩ := picked_lit hp4 (by omega)
          obtain ⟨z, rfl⟩ := Int.eq_ofNat_of_zero_le p7
          obtain ⟨X, -, hX⟩ := lit_two hg4 (by omega) p8
          have hO4 := (HO3.out.alloc hsz3 _).picked hg4 (by simp; omega)
          have HRow4 := Lib.hid ((HRow3.out.alloc _).kept hg4 (.inr (by intro b e; cases e; left; omega)))
          have HR4 := Lib.hid hr4
          have hsz4 := hO4.size
          have HO4 := Lib.hid hO4
          clear hp4 hr4 hg4 HO3 HRow3 HR3 hO4
          have HRow5 := Lib.hid (Row.one (w := w4) (base := w.heap.size) X hsz4)
          have HI5 := Lib.hid (HRow4.out.alloc (.cells #[.int .i64 X] 3)).ints
          have hnc := HRow4.out.none_cap
          go_wp2_with (at_builtin; refine append_ints _ rfl _ _ rfl rfl HRow5.out rfl HI5.out hnc (by omega) (by simp; omega) ?_; intro A6 c6 w6 hr6 hg6)
          have HO6 := Lib.hid ((HO4.out.alloc hsz4 _).grown hg6 (by simp; omega) (fun b e => .inl (HRow5.out.own b e)))
          have HR6 := Lib.hid ((HR4.out.alloc _).grown (base := w.heap.size) hg6 hgl HRow5.out.own)
          have HRow6 := Lib.hid hr6
          clear hr6 hg6
          go_wp2
          go_ret
          exact ⟨A6, 1 + n, c6, _, rfl, by omega, HRow6.out, HR6.out.mono (by omega), HO6.out.grow⟩

theorem DrawStopsValid_any {w : World} {B : Nat} {A : Option Addr} {n c : Nat} {h : Nat → Int} (hB : B ≤ w.heap.size) (hc : n ≤ c) (hs : Bytes w B A n h) :
    Calls Try.prog 21 #[.slice A n c] w fun e w' => ∃ A1 n1 c1 f, e = .returned (.slice A1 n1 c1) ∧ n1 ≤ 20 ∧ Row w' w.heap.size A1 n1 c1 f ∧ Below w.heap.size w w' := by
  have HS := Lib.hid hs
  clear hs
  go_enter Try.func21, Try.ntmps21
  go_wp2_with fail
  refine (l20Open_any hB hc HS.out).mono ?_
  rintro e w1 ⟨g, rfl, hg, hr1, hb1⟩
  have HR1 := Lib.hid hr1
  have HB1 := Lib.hid hb1
  have hsz := hb1.size
  clear hr1 hb1
  go_wp2_with fail
  refine (l20Stands_any _ (by omega) (by omega) (by omega) HR1.out).mono ?_
  rintro e w2 ⟨A2, n2, c2, f2, rfl, hn2, hr2, hrd2, hg2⟩
  have HB2 := Lib.hid (HB1.out.grown hg2 hsz (by intro b e; cases e; exact hg))
  have HR2 := Lib.hid (hr2.mono hsz)
  clear hr2 hrd2 hg2
  go_wp2
  go_ret
  exact ⟨A2, n2, c2, f2, rfl, hn2, HR2.out, HB2.out⟩
theorem DrawPartsValid_any {w : World} {B : Nat} {A : Option Addr} {n c : Nat} {h : Nat → Int} (hB : B ≤ w.heap.size) (hc : n ≤ c) (hs : Bytes w B A n h) :
    Calls Try.prog 23 #[.slice A n c] w fun e w' => ∃ A1 n1 c1 f, e = .returned (.slice A1 n1 c1) ∧ n1 ≤ 20 ∧ Row w' w.heap.size A1 n1 c1 f ∧ Below w.heap.size w w' := by
  have HS := Lib.hid hs
  clear hs
  go_enter Try.func23, Try.ntmps23
  go_wp2_with fail
  refine (l20Open_any hB hc HS.out).mono ?_
  rintro e w1 ⟨g, rfl, hg, hr1, hb1⟩
  have HR1 := Lib.hid hr1
  have HB1 := Lib.hid hb1
  have hsz := hb1.size
  clear hr1 hb1
  go_wp2_with fail
  refine (l20Lasts_any _ (by omega) (by omega) (by omega) HR1.out).mono ?_
  rintro e w2 ⟨A2, n2, c2, f2, rfl, hn2, hr2, hrd2, hg2⟩
  have HB2 := Lib.hid (HB1.out.grown hg2 hsz (by intro b e; cases e; exact hg))
  have HR2 := Lib.hid (hr2.mono hsz)
  clear hr2 hrd2 hg2
  go_wp2
  go_ret
  exact ⟨A2, n2, c2, f2, rfl, hn2, HR2.out, HB2.out⟩

set_option maxHeartbeats 3200000 in
theorem DrawLongestGap_any {w : World} {B : Nat} {A : Option Addr} {n c : Nat} {h : Nat → Int} (hB : B ≤ w.heap.size) (hc : n ≤ c) (hs : Bytes w B A n h) :
    Calls Try.prog 30 #[.slice A n c] w fun e w' => ∃ t A1 n1 c1 f, e = .returned (.tuple #[.int .i64 t, .slice A1 n1 c1]) ∧ n1 ≤ 20 ∧ Row w' w.heap.size A1 n1 c1 f ∧ Below w.heap.size w w' := by
  have HS := Lib.hid hs
  clear hs
  go_enter Try.func30, Try.ntmps30
  go_wp2_with fail
  refine (l20Open_any hB hc HS.out).mono ?_
  rintro e w1 ⟨g, rfl, hg, hr1, hb1⟩
  have HR1 := Lib.hid hr1
  have HB1 := Lib.hid hb1
  have hsz := hb1.size
  clear hr1 hb1
  go_wp2_with fail
  refine (l20Trips_any (by omega) HR1.out).mono ?_
  rintro e w2 ⟨t, rfl, hr2, hg2⟩
  have HB2 := Lib.hid (HB1.out.grown hg2 hsz (by intro b e; cases e; exact hg))
  have HR2 := Lib.hid hr2
  have hsz2 := HB2.out.size
  clear hr2 hg2
  go_wp2_with fail
  refine (l20Stands_any _ (by omega) (by omega) (by omega) HR2.out).mono ?_
  rintro e w3 ⟨A3, n3, c3, f3, rfl, hn3, hr3, hrd3, hg3⟩
  have HB3 := Lib.hid (HB2.out.grown hg3 hsz2 (by intro b e; cases e; exact hg))
  have HR3 := Lib.hid (hr3.mono hsz2)
  clear hr3 hrd3 hg3
  go_wp2
  go_ret2
  exact ⟨t, A3, n3, c3, f3, rfl, hn3, HR3.out, HB3.out⟩

set_option maxHeartbeats 3200000 in
theorem DrawFewestStops_any {w : World} {B : Nat} {A : Option Addr} {n c : Nat} {h : Nat → Int} (hB : B ≤ w.heap.size) (hc : n ≤ c) (hs : Bytes w B A n h) :
    Calls Try.prog 31 #[.slice A n c] w fun e w' => ∃ t A1 n1 c1 f, e = .returned (.tuple #[.int .i64 t, .slice A1 n1 c1]) ∧ n1 ≤ 20 ∧ Row w' w.heap.size A1 n1 c1 f ∧ Below w.heap.size w w' := by
  have HS := Lib.hid hs
  clear hs
  go_enter Try.func31, Try.ntmps31
  go_wp2_with fail
  refine (l20Open_any hB hc HS.out).mono ?_
  rintro e w1 ⟨g, rfl, hg, hr1, hb1⟩
  have HR1 := Lib.hid hr1
  have HB1 := Lib.hid hb1
  have hsz := hb1.size
  clear hr1 hb1
  go_wp2_with fail
  refine (l20Trips_any (by omega) HR1.out).mono ?_
  rintro e w2 ⟨t, rfl, hr2, hg2⟩
  have HB2 := Lib.hid (HB1.out.grown hg2 hsz (by intro b e; cases e; exact hg))
  have HR2 := Lib.hid hr2
  have hsz2 := HB2.out.size
  clear hr2 hg2
  go_wp2_with fail
  refine (l20Lasts_any _ (by omega) (by omega) (by omega) HR2.out).mono ?_
  rintro e w3 ⟨A3, n3, c3, f3, rfl, hn3, hr3, hrd3, hg3⟩
  have HB3 := Lib.hid (HB2.out.grown hg3 hsz2 (by intro b e; cases e; exact hg))
  have HR3 := Lib.hid (hr3.mono hsz2)
  clear hr3 hrd3 hg3
  go_wp2
  go_ret2
  exact ⟨t, A3, n3, c3, f3, rfl, hn3, HR3.out, HB3.out⟩
end Go.Proofs.Ytnpignenikkmiaa
