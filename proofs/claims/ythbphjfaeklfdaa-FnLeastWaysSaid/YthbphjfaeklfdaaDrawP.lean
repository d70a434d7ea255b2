/-
  The contracts of the drawings of floors and people. No claim stands here.
-/
import Derived.Test.YthbphjfaeklfdaaSeg
namespace Go.Proofs.Ythbphjfaeklfdaa
open Go.RowKit
set_option linter.unusedVariables false
set_option linter.unusedSimpArgs false

/-- What a drawing of a list leaves: a row of the call's own of at most N numbers, the reader at most at Q. -/
def DrawnR (N Q : Nat) (w : World) (g : Nat) (e : Ending) (w' : World) : Prop :=
  ∃ A n c f, e = .returned (.slice A n c) ∧ n ≤ N ∧ Row w' w.heap.size A n c f ∧ Reads w' g Q ∧ w.grownBy w' (some g)

set_option maxHeartbeats 3200000 in
theorem l20Floors_any {w : World} {g Q : Nat} (N : Int) (h0 : 0 ≤ N) (hN : N ≤ 1000000000) (hQ : Q + 20 ≤ 1000000) (r : Reads w g Q) :
    Calls Try.prog 44 #[.pointer (some ⟨g, 0, none⟩), .int .i64 N] w (DrawnR 9 (Q + 20) w g) := by
  have hgl := r.lt
  have H := Lib.hid (r.alloc (.cells #[.int .i64 0] 3))
  clear r
  go_enter Try.func44, Try.ntmps44
  go_wp2_with fail
  refine (H.out.pick _ (by omega) (by omega)).mono ?_
  rintro e w1 ⟨x1, rfl, hp1, hr1, hg1⟩
  obtain ⟨p1, p2⟩ := picked_litS hp1 (by omega)
  have ho1 := ((Only.refl w.heap.size g w).alloc (Nat.le_refl _) (.cells #[.int .i64 0] 3)).picked hg1 (by simp)
  have hrow1 := (Row.one (w := w) (base := w.heap.size) 0 (Nat.le_refl _)).kept hg1 (.inr (by intro b e; cases e; left; omega))
  clear hp1 hg1
  obtain ⟨k1, rfl⟩ := Int.eq_ofNat_of_zero_le p1
  go_wp2
  go_loopw [5, 6, 7] (fun s5 s6 s7 wr => ∃ (k i : Nat) (A : Option Addr) (c : Nat) (f : Nat → Int) (a : Nat), s7 = .int .i64 k ∧ i + k ≤ 7 ∧ s5 = .slice A (i + 1) c ∧ s6 = .int .i64 a ∧ a ≤ 7 * i ∧ Row wr w.heap.size A (i + 1) c f ∧ Reads wr g (Q + 1 + i) ∧ Only w.heap.size g w wr) (fun _ _ s7 _ => (intOf s7).toNat)
  case atStart => exact ⟨k1, 0, _, _, _, 0, rfl, by omega, rfl, rfl, by omega, hrow1, hr1, ho1⟩
  case round =>
    obtain ⟨k, i, A, c, f, a, rfl, hik, rfl, rfl, hai, hrow, hr, ho⟩ := hrel
    clear hrow1 hr1 ho1 H
    by_cases hk : 0 < k
    · have HRow := Lib.hid hrow
      have HR := Lib.hid hr
      have HO := Lib.hid ho
      have hsz := ho.size
      clear hrow hr ho
      go_wp2_with fail
      refine (HR.out.pick _ (by omega) (by omega)).mono ?_
      rintro e w2 ⟨x2, rfl, hp2, hr2, hg2⟩
      obtain ⟨p3, p4⟩ := picked_litS hp2 (by omega)
      have HO2 := Lib.hid (HO.out.picked hg2 hsz)
      have HRow2 := Lib.hid (HRow.out.kept hg2 (.inr (by intro b e; cases e; left; omega)))
      have HR2 := Lib.hid hr2
      have hsz2 := HO2.out.size
      clear hp2 hr2 hg2 HO HRow HR
      obtain ⟨z, rfl⟩ := Int.eq_ofNat_of_zero_le p3
      go_wp2_with (at_builtin; refine append_int _ rfl _ _ rfl rfl (HRow2.out.alloc _) w2.heap.size ((a : Int) + 2 + z) rfl (by simp) (by omega) (by simp; omega) ?_; intro A3 c3 w3 hr3 hg3)
      have HO3 := Lib.hid ((HO2.out.alloc hsz2 _).grown hg3 (by simp; omega) (fun b e => .inl (HRow2.out.own b e)))
      have HR3 := Lib.hid ((HR2.out.alloc _).grown (base := w.heap.size) hg3 hgl HRow2.out.own)
      have HRow3 := Lib.hid hr3
      clear hr3 hg3
      go_wp2
      go_roundw
      case rel => exact ⟨k - 1, i + 1, A3, c3, _, a + 2 + z, by go_num, by omega, rfl, by go_num, by omega, HRow3.out, HR3.out.mono (by omega), HO3.out⟩
      case measure => simp [intOf]; omega
    · obtain rfl : k = 0 := by omega
      have HRow := Lib.hid hrow
      have HR := Lib.hid hr
      have HO := Lib.hid ho
      have hsz := ho.size
      clear hrow hr ho
      go_wp2_with fail
      refine (HR.out.odd _ h0 hN (by omega)).mono ?_
      rintro e w2 ⟨b, rfl, hr2, hg2⟩
      have HO2 := Lib.hid (HO.out.picked hg2 hsz)
      have HRow2 := Lib.hid (HRow.out.kept hg2 (.inr (by intro b e; cases e; left; omega)))
      have HR2 := Lib.hid hr2
      have hsz2 := HO2.out.size
      clear hr2 hg2 HO HRow HR
      cases b
      · go_wp2
        go_ret
        exact ⟨A, i + 1, c, f, rfl, by omega, HRow2.out, HR2.out.mono (by omega), HO2.out.grow⟩
      · go_wp2_with fail
        refine (HR2.out.pick _ (by omega) (by omega)).mono ?_
        rintro e w3 ⟨x3, rfl, hp3, hr3, hg3⟩
        have HO3 := Lib.hid (HO2.out.picked hg3 hsz2)
        have HRow3 := Lib.hid (HRow2.out.kept hg3 (.inr (by intro b e; cases e; left; omega)))
        have HR3 := Lib.hid hr3
        have hsz3 := HO3.out.size
        clear hp3 hr3 hg3 HO2 HRow2 HR2
        obtain ⟨b, rfl, hbb, hbl⟩ := HRow3.out.form (by omega)
        by_cases e0 : x3 = 0
        · subst e0
          have HRow4 := Lib.hid (Row.empty (w := w3) (base := w.heap.size) f hsz3)
          have HO4 := Lib.hid (HO3.out.alloc hsz3 (.cells #[] 3))
          have HR4 := Lib.hid (HR3.out.alloc (.cells #[] 3))
          go_wp2
          go_ret
          exact ⟨_, 0, _, _, rfl, by omega, HRow4.out, HR4.out.mono (by omega), HO4.out.grow⟩
        · have e0' : (x3 == 0) = false := by simpa using e0
          clear e0
          by_cases e1 : x3 = 1
          · subst e1
            clear e0'
            have z1 := HRow3.out.cell (k := 0) (by omega)
            have z2 := HRow3.out.frozen 0
            have hst := HRow3.out.set (k := 0) 1
            have HO4 := Lib.hid (HO3.out.grown hst.2 hsz3 (by intro k e; cases e; exact .inl hbb))
            have HR4 := Lib.hid (HR3.out.grown (base := w.heap.size) hst.2 hgl (by intro k e; cases e; exact hbb))
            have HS4 := Lib.hid hst.1
            clear hst HRow3 HO3 HR3
            go_wp2
            go_ret
            exact ⟨_, i + 1, _, _, rfl, by omega, HS4.out, HR4.out.mono (by omega), HO4.out.grow⟩
          · have e1' : (x3 == 1) = false := by simpa using e1
            clear e1
            by_cases e2 : x3 = 2
            · subst e2
              clear e0' e1'
              have z1 := HRow3.out.cell (k := i) (by omega)
              have q6 : IntKind.i64.wrap ((i : Int) + 1 - 1) = (i : Int) := by rw [show (i : Int) + 1 - 1 = (i : Int) by omega]; exact IntWalk.i64_in _ (by omega)
              go_wp2_with (at_builtin; refine append_int _ rfl _ _ rfl rfl (HRow3.out.alloc _) w3.heap.size (f i) rfl (by simp) (by omega) (by simp; omega) ?_; intro A4 c4 w4 hr4 hg4)
              have HO4 := Lib.hid ((HO3.out.alloc hsz3 _).grown hg4 (by simp; omega) (fun b e => .inl (HRow3.out.own b e)))
              have HR4 := Lib.hid ((HR3.out.alloc _).grown (base := w.heap.size) hg4 hgl HRow3.out.own)
              have HRow4 := Lib.hid hr4
              clear hr4 hg4 q6
              go_wp2
              go_ret
              exact ⟨A4, i + 2, c4, _, rfl, by omega, HRow4.out, HR4.out.mono (by omega), HO4.out.grow⟩
            · have e2' : (x3 == 2) = false := by simpa using e2
              clear e2
              go_wp2_with (at_builtin; refine append_int _ rfl _ _ rfl rfl (HRow3.out.alloc _) w3.heap.size 61 rfl (by simp) (by omega) (by simp; omega) ?_; intro A4 c4 w4 hr4 hg4)
              have HO4 := Lib.hid ((HO3.out.alloc hsz3 _).grown hg4 (by simp; omega) (fun b e => .inl (HRow3.out.own b e)))
              have HR4 := Lib.hid ((HR3.out.alloc _).grown (base := w.heap.size) hg4 hgl HRow3.out.own)
              have HRow4 := Lib.hid hr4
              clear hr4 hg4
              go_wp2
              go_ret
              exact ⟨A4, i + 2, c4, _, rfl, by omega, HRow4.out, HR4.out.mono (by omega), HO4.out.grow⟩

/-- What a drawing of floors, people and a room leaves. -/
def DrawnP (Q : Nat) (w : World) (g : Nat) (e : Ending) (w' : World) : Prop :=
  ∃ A n c f A2 n2 c2 p r, e = .returned (.tuple #[.slice A n c, .slice A2 n2 c2, .int .i64 r]) ∧ n ≤ 9 ∧ n2 ≤ 10 ∧ Row w' w.heap.size A n c f ∧ Row w' w.heap.size A2 n2 c2 p ∧ Reads w' g Q ∧ w.grownBy w' (some g)

set_option maxHeartbeats 6400000 in
theorem l20People_any {w : World} {g Q : Nat} (N : Int) (h0 : 0 ≤ N) (hN : N ≤ 1000000) (hQ : Q + 60 ≤ 1000000) (r : Reads w g Q) :
    Calls Try.prog 43 #[.pointer (some ⟨g, 0, none⟩), .int .i64 N] w (DrawnP (Q + 60) w g) := by
  have hgl := r.lt
  have H := Lib.hid r
  clear r
  go_enter Try.func43, Try.ntmps43
  go_wp2_with fail
  refine (l20Floors_any _ (by omega) (by omega) (by omega) H.out).mono ?_
  rintro e w1 ⟨A1, n1, c1, f, rfl, hn1, hr1, hrd1, hg1⟩
  have HF1 := Lib.hid hr1
  have HG1 := Lib.hid hg1
  have hsz1 := hg1.size
  have hrow2 := Row.empty (w := w1) (base := w1.heap.size) (fun _ => 0) (Nat.le_refl _)
  have hrd2 := hrd1.alloc (.cells #[] 3)
  have ho2 := (Only.refl w1.heap.size g w1).alloc (Nat.le_refl _) (.cells #[] 3)
  clear hr1 hrd1 hg1 H
  go_wp2
  go_loopw [8, 9] (fun s8 s9 wr => ∃ (i : Nat) (A : Option Addr) (c : Nat) (p : Nat → Int), s9 = .int .i64 i ∧ i ≤ n1 ∧ s8 = .slice A i c ∧ Hid (i = 0 → A = some ⟨w1.heap.size, 0, none⟩ ∧ c = 0) ∧ Row wr w1.heap.size A i c p ∧ Reads wr g (Q + 20 + 2 * i) ∧ Only w1.heap.size g w1 wr) (fun _ s9 _ => n1 - (intOf s9).toNat)
  case atStart => exact ⟨0, _, _, _, rfl, by omega, rfl, Lib.hid (fun _ => ⟨rfl, rfl⟩), hrow2, hrd2, ho2⟩
  case round =>
    obtain ⟨i, A, c, p, rfl, hi, rfl, HA, hrow, hr, ho⟩ := hrel
    clear hrow2 hrd2 ho2
    have HRow := Lib.hid hrow
    have HR := Lib.hid hr
    have HO := Lib.hid ho
    have hsz := ho.size
    clear hrow hr ho
    by_cases hlt : i < n1
    · go_wp2_with fail
      refine (HR.out.pick _ (by omega) (by omega)).mono ?_
      rintro e w2 ⟨x2, rfl, hp2, hr2, hg2⟩
      obtain ⟨p1, p2⟩ := picked_litS hp2 (by omega)
      have HO2 := Lib.hid (HO.out.picked hg2 hsz)
      have HRow2 := Lib.hid (HRow.out.kept hg2 (.inr (by intro b e; cases e; left; omega)))
      have HR2 := Lib.hid hr2
      have hsz2 := HO2.out.size
      clear hp2 hr2 hg2 HO HRow HR
      go_wp2_with fail
      refine (HR2.out.pick _ (by omega) (by omega)).mono ?_
      rintro e w3 ⟨x3, rfl, hp3, hr3, hg3⟩
      obtain ⟨p3, p4⟩ := picked_litS hp3 (by omega)
      have HO3 := Lib.hid (HO2.out.picked hg3 hsz2)
      have HRow3 := Lib.hid (HRow2.out.kept hg3 (.inr (by intro b e; cases e; left; omega)))
      have HR3 := Lib.hid hr3
      have hsz3 := HO3.out.size
      clear hp3 hr3 hg3 HO2 HRow2 HR2
      go_wp2_with (at_builtin; refine append_int _ rfl _ _ rfl rfl (HRow3.out.alloc _) w3.heap.size _ rfl (by simp; rfl) (by omega) (by simp; omega) ?_; intro A4 c4 w4 hr4 hg4)
      have HO4 := Lib.hid ((HO3.out.alloc hsz3 _).grown hg4 (by simp; omega) (fun b e => .inl (HRow3.out.own b e)))
      have HR4 := Lib.hid ((HR3.out.alloc _).grown (base := w1.heap.size) hg4 (by omega) HRow3.out.own)
      have HRow4 := Lib.hid hr4
      clear hr4 hg4
      go_wp2
      go_roundw
      case rel => exact ⟨i + 1, A4, c4, _, by go_num, by omega, rfl, Lib.hid (fun h => by omega), HRow4.out, HR4.out.mono (by omega), HO4.out⟩
      case measure => simp [intOf]; omega
    · obtain rfl : i = n1 := by omega
      go_wp2_with fail
      refine (HR.out.pick _ (by omega) (by omega)).mono ?_
      rintro e w2 ⟨x2, rfl, hp2, hr2, hg2⟩
      obtain ⟨p1, p2⟩ := picked_litS hp2 (by omega)
      have HO2 := Lib.hid (HO.out.picked hg2 hsz)
      have HRow2 := Lib.hid (HRow.out.kept hg2 (.inr (by intro b e; cases e; left; omega)))
      have HR2 := Lib.hid hr2
      have hsz2 := HO2.out.size
      clear hp2 hr2 hg2 HO HRow HR
      go_wp2_with fail
      refine (HR2.out.odd _ (by omega) (by omega) (by omega)).mono ?_
      rintro e w3 ⟨b, rfl, hr3, hg3⟩
      have HO3 := Lib.hid (HO2.out.picked hg3 hsz2)
      have HRow3 := Lib.hid (HRow2.out.kept hg3 (.inr (by intro b e; cases e; left; omega)))
      have HR3 := Lib.hid hr3
      have hsz3 := HO3.out.size
      clear hr3 hg3 HO2 HRow2 HR2
      cases b
      · go_wp2
        go_ret3
        exact ⟨A1, i, c1, f, A, i, c, p, _, rfl, by omega, by omega, HF1.out.kept HO3.out.grow (.inr (by intro b e; cases e; left; omega)), HRow3.out.mono hsz1, HR3.out.mono (by omega), HG1.out.trans HO3.out.grow⟩
      · go_wp2_with fail
        refine (HR3.out.pick _ (by omega) (by omega)).mono ?_
        rintro e w4 ⟨x4, rfl, hp4, hr4, hg4⟩
        have HO4 := Lib.hid (HO3.out.picked hg4 hsz3)
        have HRow4 := Lib.hid (HRow3.out.kept hg4 (.inr (by intro b e; cases e; left; omega)))
        have HR4 := Lib.hid hr4
        have hsz4 := HO4.out.size
        clear hp4 hr4 hg4 HO3 HRow3 HR3
        by_cases e0 : x4 = 0
        · subst e0
          go_wp2_with (at_builtin; refine append_int _ rfl _ _ rfl rfl (HRow4.out.alloc _) w4.heap.size 1 rfl (by simp) (by omega) (by simp; omega) ?_; intro A5 c5 w5 hr5 hg5)
          have HO5 := Lib.hid ((HO4.out.alloc hsz4 _).grown hg5 (by simp; omega) (fun b e => .inl (HRow4.out.own b e)))
          have HR5 := Lib.hid ((HR4.out.alloc _).grown (base := w1.heap.size) hg5 (by omega) HRow4.out.own)
          have HRow5 := Lib.hid hr5
          clear hr5 hg5
          go_wp2
          go_ret3
          exact ⟨A1, i, c1, f, A5, i + 1, c5, _, _, rfl, by omega, by omega, HF1.out.kept HO5.out.grow (.inr (by intro b e; cases e; left; omega)), HRow5.out.mono hsz1, HR5.out.mono (by omega), HG1.out.trans HO5.out.grow⟩
        · have e0' : (x4 == 0) = false := by simpa using e0
          clear e0
          by_cases e1 : x4 = 1
          · subst e1
            clear e0'
            have HOne := Lib.hid (Row.one (w := w4) (base := w1.heap.size) 31 hsz4)
            by_cases hi0 : i = 0
            · obtain ⟨rfl, rfl⟩ := HA.out hi0
              subst hi0
              go_wp2_with (at_builtin; refine append_ints _ rfl _ _ rfl rfl HOne.out rfl (Ints.zero (B := 0) (f := f)) (by intro h; cases h) (by omega) (by simp; omega) ?_; intro A5 c5 w5 hr5 hg5)
              have HO5 := Lib.hid ((HO4.out.alloc hsz4 _).grown hg5 (by simp; omega) (fun b e => .inl (HOne.out.own b e)))
              have HR5 := Lib.hid ((HR4.out.alloc _).grown (base := w1.heap.size) hg5 (by omega) HOne.out.own)
              have HRow5 := Lib.hid hr5
              clear hr5 hg5
              go_wp2
              go_ret3
              exact ⟨A1, 0, c1, f, A5, 1 + 0, c5, _, _, rfl, by omega, by omega, HF1.out.kept HO5.out.grow (.inr (by intro b e; cases e; left; omega)), HRow5.out.mono hsz1, HR5.out.mono (by omega), HG1.out.trans HO5.out.grow⟩
            · obtain ⟨m, rfl⟩ : ∃ m, i = m + 1 := ⟨i - 1, by omega⟩
              obtain ⟨b, rfl, hbb, hbl⟩ := HRow4.out.form (by omega)
              have hcap := HRow4.out.cap.1
              clear HA hi0
              by_cases hc1 : c = 1
              · subst hc1
                obtain rfl : m = 0 := by omega
                clear hcap
                go_wp2_with (at_builtin; refine append_ints _ rfl _ _ rfl rfl HOne.out rfl (Ints.zero (B := 0) (f := f)) (by intro h; cases h) (by omega) (by simp; omega) ?_; intro A5 c5 w5 hr5 hg5)
                have HO5 := Lib.hid ((HO4.out.alloc hsz4 _).grown hg5 (by simp; omega) (fun b e => .inl (HOne.out.own b e)))
                have HR5 := Lib.hid ((HR4.out.alloc _).grown (base := w1.heap.size) hg5 (by omega) HOne.out.own)
                have HRow5 := Lib.hid hr5
                clear hr5 hg5
                go_wp2
                go_ret3
                exact ⟨A1, 1, c1, f, A5, 1 + 0, c5, _, _, rfl, by omega, by omega, HF1.out.kept HO5.out.grow (.inr (by intro b e; cases e; left; omega)), HRow5.out.mono hsz1, HR5.out.mono (by omega), HG1.out.trans HO5.out.grow⟩
              · have hc2 : ¬ (c - 1 = 0) := by omega
                have q3 : (1 : Int) ≤ (m : Int) + 1 := by omega
                have q4 : (m : Int) + 1 ≤ c := by omega
                have q5 : ¬ (m : Int) + 1 < 1 := by omega
                have HI := Lib.hid (HRow4.out.alloc (.cells #[.int .i64 31] 3)).ints.tail
                rw [Nat.zero_add, Nat.add_sub_cancel] at HI
                go_wp2_with (at_builtin; refine append_ints _ rfl _ _ rfl rfl HOne.out rfl HI.out (by intro h; cases h) (by omega) (by simp; omega) ?_; intro A5 c5 w5 hr5 hg5)
                have HO5 := Lib.hid ((HO4.out.alloc hsz4 _).grown hg5 (by simp; omega) (fun b e => .inl (HOne.out.own b e)))
                have HR5 := Lib.hid ((HR4.out.alloc _).grown (base := w1.heap.size) hg5 (by omega) HOne.out.own)
                have HRow5 := Lib.hid hr5
                clear hr5 hg5
                go_wp2
                go_ret3
                exact ⟨A1, m + 1, c1, f, A5, 1 + m, c5, _, _, rfl, by omega, by omega, HF1.out.kept HO5.out.grow (.inr (by intro b e; cases e; left; omega)), HRow5.out.mono hsz1, HR5.out.mono (by omega), HG1.out.trans HO5.out.grow⟩
          · have e1' : (x4 == 1) = false := by simpa using e1
            clear e1
            go_wp2_with fail
            refine ((HR4.out.alloc _).pick _ (by omega) (by omega)).mono ?_
            rintro e w5 ⟨x5, rfl, hp5, hr5, hg5⟩
            obtain ⟨p5, p6⟩ := picked_litS hp5 (by omega)
            obtain ⟨z, rfl⟩ := Int.eq_ofNat_of_zero_le p5
            obtain ⟨X, -, hX⟩ := lit_two hg5 (by omega) p6
            have HO5 := Lib.hid ((HO4.out.alloc hsz4 _).picked hg5 (by simp; omega))
            have HRow5 := Lib.hid ((HRow4.out.alloc _).kept hg5 (.inr (by intro b e; cases e; left; omega)))
            have HR5 := Lib.hid hr5
            clear hp5 hr5 hg5
            go_wp2
            go_ret3
            exact ⟨A1, i, c1, f, A, i, c, p, _, rfl, by omega, by omega, HF1.out.kept HO5.out.grow (.inr (by intro b e; cases e; left; omega)), HRow5.out.mono hsz1, HR5.out.mono (by omega), HG1.out.trans HO5.out.grow⟩
set_option maxHeartbeats 1600000 in
theorem DrawPeopleOk_any {w : World} {B : Nat} {A : Option Addr} {n c : Nat} {h : Nat → Int} (hB : B ≤ w.heap.size) (hc : n ≤ c) (hs : Bytes w B A n h) :
    Calls Try.prog 27 #[.slice A n c] w fun e w' => ∃ A1 n1 c1 f A2 n2 c2 p r, e = .returned (.tuple #[.slice A1 n1 c1, .slice A2 n2 c2, .int .i64 r]) ∧ n1 ≤ 9 ∧ n2 ≤ 10 ∧ Row w' w.heap.size A1 n1 c1 f ∧ Row w' w.heap.size A2 n2 c2 p ∧ Below w.heap.size w w' := by
  have HS := Lib.hid hs
  clear hs
  go_enter Try.func27, Try.ntmps27
  go_wp2_with fail
  refine (l20Open_any hB hc HS.out).mono ?_
  rintro e w1 ⟨g, rfl, hg, hr1, hb1⟩
  have HR1 := Lib.hid hr1
  have HB1 := Lib.hid hb1
  have hsz := hb1.size
  clear hr1 hb1
  go_wp2_with fail
  refine (l20People_any _ (by omega) (by omega) (by omega) HR1.out).mono ?_
  rintro e w2 ⟨A2, n2, c2, f, A3, n3, c3, p, r, rfl, hn2, hn3, hr2, hr3, hrd2, hg2⟩
  have HB2 := Lib.hid (HB1.out.grown hg2 hsz (by intro b e; cases e; exact hg))
  have HR2 := Lib.hid (hr2.mono hsz)
  have HR3 := Lib.hid (hr3.mono hsz)
  clear hr2 hr3 hrd2 hg2
  go_wp2
  go_ret3
  exact ⟨A2, n2, c2, f, A3, n3, c3, p, r, rfl, hn2, hn3, HR2.out, HR3.out, HB2.out⟩
set_option maxHeartbeats 1600000 in
theorem DrawClearWays_any {w : World} {B : Nat} {A : Option Addr} {n c : Nat} {h : Nat → Int} (hB : B ≤ w.heap.size) (hc : n ≤ c) (hs : Bytes w B A n h) :
    Calls Try.prog 30 #[.slice A n c] w fun e w' => ∃ A1 n1 c1 f A2 n2 c2 p r, e = .returned (.tuple #[.slice A1 n1 c1, .slice A2 n2 c2, .int .i64 r]) ∧ n1 ≤ 9 ∧ n2 ≤ 10 ∧ Row w' w.heap.size A1 n1 c1 f ∧ Row w' w.heap.size A2 n2 c2 p ∧ Below w.heap.size w w' := by
  have HS := Lib.hid hs
  clear hs
  go_enter Try.func30, Try.ntmps30
  go_wp2_with fail
  refine (l20Open_any hB hc HS.out).mono ?_
  rintro e w1 ⟨g, rfl, hg, hr1, hb1⟩
  have HR1 := Lib.hid hr1
  have HB1 := Lib.hid hb1
  have hsz := hb1.size
  clear hr1 hb1
  go_wp2_with fail
  refine (l20People_any _ (by omega) (by omega) (by omega) HR1.out).mono ?_
  rintro e w2 ⟨A2, n2, c2, f, A3, n3, c3, p, r, rfl, hn2, hn3, hr2, hr3, hrd2, hg2⟩
  have HB2 := Lib.hid (HB1.out.grown hg2 hsz (by intro b e; cases e; exact hg))
  have HR2 := Lib.hid (hr2.mono hsz)
  have HR3 := Lib.hid (hr3.mono hsz)
  clear hr2 hr3 hrd2 hg2
  go_wp2
  go_ret3
  exact ⟨A2, n2, c2, f, A3, n3, c3, p, r, rfl, hn2, hn3, HR2.out, HR3.out, HB2.out⟩
set_option maxHeartbeats 1600000 in
theorem DrawSharedWays_any {w : World} {B : Nat} {A : Option Addr} {n c : Nat} {h : Nat → Int} (hB : B ≤ w.heap.size) (hc : n ≤ c) (hs : Bytes w B A n h) :
    Calls Try.prog 31 #[.slice A n c] w fun e w' => ∃ A1 n1 c1 f A2 n2 c2 p r, e = .returned (.tuple #[.slice A1 n1 c1, .slice A2 n2 c2, .int .i64 r]) ∧ n1 ≤ 9 ∧ n2 ≤ 10 ∧ Row w' w.heap.size A1 n1 c1 f ∧ Row w' w.heap.size A2 n2 c2 p ∧ Below w.heap.size w w' := by
  have HS := Lib.hid hs
  clear hs
  go_enter Try.func31, Try.ntmps31
  go_wp2_with fail
  refine (l20Open_any hB hc HS.out).mono ?_
  rintro e w1 ⟨g, rfl, hg, hr1, hb1⟩
  have HR1 := Lib.hid hr1
  have HB1 := Lib.hid hb1
  have hsz := hb1.size
  clear hr1 hb1
  go_wp2_with fail
  refine (l20People_any _ (by omega) (by omega) (by omega) HR1.out).mono ?_
  rintro e w2 ⟨A2, n2, c2, f, A3, n3, c3, p, r, rfl, hn2, hn3, hr2, hr3, hrd2, hg2⟩
  have HB2 := Lib.hid (HB1.out.grown hg2 hsz (by intro b e; cases e; exact hg))
  have HR2 := Lib.hid (hr2.mono hsz)
  have HR3 := Lib.hid (hr3.mono hsz)
  clear hr2 hr3 hrd2 hg2
  go_wp2
  go_ret3
  exact ⟨A2, n2, c2, f, A3, n3, c3, p, r, rfl, hn2, hn3, HR2.out, HR3.out, HB2.out⟩
set_option maxHeartbeats 1600000 in
theorem DrawLeastWays_any {w : World} {B : Nat} {A : Option Addr} {n c : Nat} {h : Nat → Int} (hB : B ≤ w.heap.size) (hc : n ≤ c) (hs : Bytes w B A n h) :
    Calls Try.prog 28 #[.slice A n c] w fun e w' => ∃ A1 n1 c1 f A2 n2 c2 p r, e = .returned (.tuple #[.slice A1 n1 c1, .slice A2 n2 c2, .int .i64 r]) ∧ n1 ≤ 9 ∧ n2 ≤ 10 ∧ Row w' w.heap.size A1 n1 c1 f ∧ Row w' w.heap.size A2 n2 c2 p ∧ Below w.heap.size w w' := by
  have HS := Lib.hid hs
  clear hs
  go_enter Try.func28, Try.ntmps28
  go_wp2_with fail
  refine (l20Open_any hB hc HS.out).mono ?_
  rintro e w1 ⟨g, rfl, hg, hr1, hb1⟩
  have HR1 := Lib.hid hr1
  have HB1 := Lib.hid hb1
  have hsz := hb1.size
  clear hr1 hb1
  go_wp2_with fail
  refine (l20People_any _ (by omega) (by omega) (by omega) HR1.out).mono ?_
  rintro e w2 ⟨A2, n2, c2, f, A3, n3, c3, p, r, rfl, hn2, hn3, hr2, hr3, hrd2, hg2⟩
  have HB2 := Lib.hid (HB1.out.grown hg2 hsz (by intro b e; cases e; exact hg))
  have HR2 := Lib.hid (hr2.mono hsz)
  have HR3 := Lib.hid (hr3.mono hsz)
  clear hr2 hr3 hrd2 hg2
  go_wp2
  go_ret3
  exact ⟨A2, n2, c2, f, A3, n3, c3, p, r, rfl, hn2, hn3, HR2.out, HR3.out, HB2.out⟩

theorem DrawTripsFor_any {w : World} {B : Nat} {A : Option Addr} {n c : Nat} {h : Nat → Int} (hB : B ≤ w.heap.size) (hc : n ≤ c) (hs : Bytes w B A n h) :
    Calls Try.prog 19 #[.slice A n c] w fun e w' => ∃ p r, e = .returned (.tuple #[.int .i64 p, .int .i64 r]) ∧ Below w.heap.size w w' := by
  have HS := Lib.hid hs
  clear hs
  go_enter Try.func19, Try.ntmps19
  go_wp2_with fail
  refine (l20Open_any hB hc HS.out).mono ?_
  rintro e w1 ⟨g, rfl, hg, hr1, hb1⟩
  have HR1 := Lib.hid hr1
  have HB1 := Lib.hid hb1
  have hsz := hb1.size
  clear hr1 hb1
  go_wp2_with fail
  refine (HR1.out.pick _ (by omega) (by omega)).mono ?_
  rintro e w2 ⟨x2, rfl, hp2, hr2, hg2⟩
  have HB2 := Lib.hid (HB1.out.grown hg2 hsz (by intro b e; cases e; exact hg))
  have HR2 := Lib.hid hr2
  have hsz2 := HB2.out.size
  clear hp2 hr2 hg2
  go_wp2_with fail
  refine (HR2.out.pick _ (by omega) (by omega)).mono ?_
  rintro e w3 ⟨x3, rfl, hp3, hr3, hg3⟩
  have HB3 := Lib.hid (HB2.out.grown hg3 hsz2 (by intro b e; cases e; exact hg))
  clear hp3 hr3 hg3
  go_wp2
  go_ret2
  exact ⟨_, _, rfl, HB3.out⟩
end Go.Proofs.Ythbphjfaeklfdaa
