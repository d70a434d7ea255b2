/-
  The contract of the drawing of floors, alone. No claim stands here.
-/
import Derived.Test.YthkpikkjgggimaaDoorBB
import Derived.Test.YthkpikkjgggimaaDoorBG
namespace Go.Proofs.YthkpikkjgggimaaDoor
open Go.RowKit
set_option linter.unusedVariables false
set_option linter.unusedSimpArgs false

theorem picked_litS {N x : Int} (h : Picked N x) (hN : 1 ≤ N) : 0 ≤ x ∧ x < N := ⟨h.1, h.2.1 hN⟩
/-- What a drawing of a list leaves: a row of the call's own of at most N numbers, the reader at most at Q. -/
def DrawnR (N Q : Nat) (w : World) (g : Nat) (e : Ending) (w' : World) : Prop :=
  ∃ A n c f, e = .returned (.slice A n c) ∧ n ≤ N ∧ Row w' w.heap.size A n c f ∧ Reads w' g Q ∧ w.grownBy w' (some g)

set_option maxHeartbeats 3200000 in
theorem l20Floors_any {w : World} {g Q : Nat} (N : Int) (h0 : 0 ≤ N) (hN : N ≤ 1000000000) (hQ : Q + 20 ≤ 1000000) (r : Reads w g Q) :
    Calls Tryd.prog 27 #[.pointer (some ⟨g, 0, none⟩), .int .i64 N] w (DrawnR 9 (Q + 20) w g) := by
  have hgl := r.lt
  have H := Lib.hid (r.alloc (.cells #[.int .i64 0] 3))
  clear r
  go_enter Tryd.func27, Tryd.ntmps27
  go_wp2_with fail
  refine (H.out.pick _ (by omega) (by omega)).mono ?_
  rintro e w1 ⟨x1, rfl, hp1, hr1, hg1⟩
  obtain ⟨p1, p2⟩ := picked_litS hp1 (by omega)
  have ho1 := ((Only.refl w.heap.size g w).alloc (Nat.le_refl _) (.cells #[.int .i64 0] 3)).picked hg1 (by simp)
  have hrow1 := (Row.one (w := w) (base := w.heap.size) 0 (Nat.le_refl _)).kept hg1 (.inr (by intro b e; cases e; left; omega))
  clear hp1 hg1
  obtain ⟨k1, rfl⟩ := Int.eq_ofNat_of_zero_le p1
  go_wp2
  go_loopw [5, 6, 7] (fun s5 s6 s7 wr => ∃ (k i : Nat) (A : Option Addr) (c : Nat) (f : Nat → Int) (a : Nat), s7 = .int .i64 k ∧ i + k ≤ 7 ∧ s5 = .slice A (i + 1) c ∧ s6 = .int .i64 a ∧ a ≤ 7 * i ∧ Row wr w.heap.size A (i + 1) c f ∧ Reads wr g (Q + 1 + i) ∧ Only w.heap.size g w wr) (fun _ _ s7 _ => (intOf s7).toNat)
  case atStart => exact ⟨k1, 0, _, _, _, 0, rfl, by omega, rfl, rfl, by omega, hrow1, hr1, ho1⟩
  case round =>
    obtain ⟨k, i, A, c, f, a, rfl, hik, rfl, rfl, hai, hrow, hr, ho⟩ := hrel
    clear hrow1 hr1 ho1 H
    by_cases hk : 0 < k
    · have HRow := Lib.hid hrow
      have HR := Lib.hid hr
      have HO := Lib.hid ho
      have hsz := ho.size
      clear hrow hr ho
      go_wp2_with fail
      refine (HR.out.pick _ (by omega) (by omega)).mono ?_
      rintro e w2 ⟨x2, rfl, hp2, hr2, hg2⟩
      obtain ⟨p3, p4⟩ := picked_litS hp2 (by omega)
      have HO2 := Lib.hid (HO.out.picked hg2 hsz)
      have HRow2 := Lib.hid (HRow.out.kept hg2 (.inr (by intro b e; cases e; left; omega)))
      have HR2 := Lib.hid hr2
      have hsz2 := HO2.out.size
      clear hp2 hr2 hg2 HO HRow HR
      obtain ⟨z, rfl⟩ := Int.eq_ofNat_of_zero_le p3
      go_wp2_with (at_builtin; refine append_int _ rfl _ _ rfl rfl (HRow2.out.alloc _) w2.heap.size ((a : Int) + 2 + z) rfl (by simp) (by omega) (by simp; omega) ?_; intro A3 c3 w3 hr3 hg3)
      have HO3 := Lib.hid ((HO2.out.alloc hsz2 _).grown hg3 (by simp; omega) (fun b e => .inl (HRow2.out.own b e)))
      have HR3 := Lib.hid ((HR2.out.alloc _).grown (base := w.heap.size) hg3 hgl HRow2.out.own)
      have HRow3 := Lib.hid hr3
      clear hr3 hg3
      go_wp2
      go_roundw
      case rel => exact ⟨k - 1, i + 1, A3, c3, _, a + 2 + z, by go_num, by omega, rfl, by go_num, by omega, HRow3.out, HR3.out.mono (by omega), HO3.out⟩
      case measure => simp [intOf]; omega
    · obtain rfl : k = 0 := by omega
      have HRow := Lib.hid hrow
      have HR := Lib.hid hr
      have HO := Lib.hid ho
      have hsz := ho.size
      clear hrow hr ho
      go_wp2_with fail
      refine (HR.out.odd _ h0 hN (by omega)).mono ?_
      rintro e w2 ⟨b, rfl, hr2, hg2⟩
      have HO2 := Lib.hid (HO.out.picked hg2 hsz)
      have HRow2 := Lib.hid (HRow.out.kept hg2 (.inr (by intro b e; cases e; left; omega)))
      have HR2 := Lib.hid hr2
      have hsz2 := HO2.out.size
      clear hr2 hg2 HO HRow HR
      cases b
      · go_wp2
        go_ret
        exact ⟨A, i + 1, c, f, rfl, by omega, HRow2.out, HR2.out.mono (by omega), HO2.out.grow⟩
      · go_wp2_with fail
        refine (HR2.out.pick _ (by omega) (by omega)).mono ?_
        rintro e w3 ⟨x3, rfl, hp3, hr3, hg3⟩
        have HO3 := Lib.hid (HO2.out.picked hg3 hsz2)
        have HRow3 := Lib.hid (HRow2.out.kept hg3 (.inr (by intro b e; cases e; left; omega)))
        have HR3 := Lib.hid hr3
        have hsz3 := HO3.out.size
        clear hp3 hr3 hg3 HO2 HRow2 HR2
        obtain ⟨b, rfl, hbb, hbl⟩ := HRow3.out.form (by omega)
        by_cases e0 : x3 = 0
        · subst e0
          have HRow4 := Lib.hid (Row.empty (w := w3) (base := w.heap.size) f hsz3)
          have HO4 := Lib.hid (HO3.out.alloc hsz3 (.cells #[] 3))
          have HR4 := Lib.hid (HR3.out.alloc (.cells #[] 3))
          go_wp2
          go_ret
          exact ⟨_, 0, _, _, rfl, by omega, HRow4.out, HR4.out.mono (by omega), HO4.out.grow⟩
        · have e0' : (x3 == 0) = false := by simpa using e0
          clear e0
          by_cases e1 : x3 = 1
          · subst e1
            clear e0'
            have z1 := HRow3.out.cell (k := 0) (by omega)
            have z2 := HRow3.out.frozen 0
            have hst := HRow3.out.set (k := 0) 1
            have HO4 := Lib.hid (HO3.out.grown hst.2 hsz3 (by intro k e; cases e; exact .inl hbb))
            have HR4 := Lib.hid (HR3.out.grown (base := w.heap.size) hst.2 hgl (by intro k e; cases e; exact hbb))
            have HS4 := Lib.hid hst.1
            clear hst HRow3 HO3 HR3
            go_wp2
            go_ret
            exact ⟨_, i + 1, _, _, rfl, by omega, HS4.out, HR4.out.mono (by omega), HO4.out.grow⟩
          · have e1' : (x3 == 1) = false := by simpa using e1
            clear e1
            by_cases e2 : x3 = 2
            · subst e2
              clear e0' e1'
              have z1 := HRow3.out.cell (k := i) (by omega)
              have q6 : IntKind.i64.wrap ((i : Int) + 1 - 1) = (i : Int) := by rw [show (i : Int) + 1 - 1 = (i : Int) by omega]; exact IntWalk.i64_in _ (by omega)
              go_wp2_with (at_builtin; refine append_int _ rfl _ _ rfl rfl (HRow3.out.alloc _) w3.heap.size (f i) rfl (by simp) (by omega) (by simp; omega) ?_; intro A4 c4 w4 hr4 hg4)
              have HO4 := Lib.hid ((HO3.out.alloc hsz3 _).grown hg4 (by simp; omega) (fun b e => .inl (HRow3.out.own b e)))
              have HR4 := Lib.hid ((HR3.out.alloc _).grown (base := w.heap.size) hg4 hgl HRow3.out.own)
              have HRow4 := Lib.hid hr4
              clear hr4 hg4 q6
              go_wp2
              go_ret
              exact ⟨A4, i + 2, c4, _, rfl, by omega, HRow4.out, HR4.out.mono (by omega), HO4.out.grow⟩
            · have e2' : (x3 == 2) = false := by simpa using e2
              clear e2
              go_wp2_with (at_builtin; refine append_int _ rfl _ _ rfl rfl (HRow3.out.alloc _) w3.heap.size 61 rfl (by simp) (by omega) (by simp; omega) ?_; intro A4 c4 w4 hr4 hg4)
              have HO4 := Lib.hid ((HO3.out.alloc hsz3 _).grown hg4 (by simp; omega) (fun b e => .inl (HRow3.out.own b e)))
              have HR4 := Lib.hid ((HR3.out.alloc _).grown (base := w.heap.size) hg4 hgl HRow3.out.own)
              have HRow4 := Lib.hid hr4
              clear hr4 hg4
              go_wp2
              go_ret
              exact ⟨A4, i + 2, c4, _, rfl, by omega, HRow4.out, HR4.out.mono (by omega), HO4.out.grow⟩

end Go.Proofs.YthkpikkjgggimaaDoor
