/-
  The contracts of the drawings of floors and calls of a valid building. No claim stands here.
-/
import Derived.Test.YtnbjibkbjdbadaaBG
import Derived.Test.YtnbjibkbjdbadaaRun
namespace Go.Proofs.Ytnbjibkbjdbadaa
open Go.RowKit
set_option linter.unusedVariables false
set_option linter.unusedSimpArgs false

theorem picked_lit0 {N x : Int} (h : Picked N x) (hN : 1 ≤ N) : 0 ≤ x ∧ x < N := ⟨h.1, h.2.1 hN⟩
/-- What a drawing of floors leaves: a row of the call's own of one to eight numbers, the reader at most at Q. -/
def DrawnF (Q : Nat) (w : World) (g : Nat) (e : Ending) (w' : World) : Prop :=
  ∃ A n c f, e = .returned (.slice A n c) ∧ 1 ≤ n ∧ n ≤ 8 ∧ Row w' w.heap.size A n c f ∧ Reads w' g Q ∧ w.grownBy w' (some g)
theorem Reads.odd0 {w : World} {g Q : Nat} (hQ : Q + 1 ≤ 1000000) (r : Reads w g Q) :
    Calls Try.prog 77 #[.pointer (some ⟨g, 0, none⟩), .int .i64 0] w fun e w' => e = .returned (.bool false) ∧ Reads w' g (Q + 1) ∧ w.grownBy w' (some g) := by
  have H := Lib.hid (r.mono (Nat.le_succ Q))
  clear r
  go_enter Try.func77, Try.ntmps77
  go_wp2
  go_ret
  exact ⟨rfl, H.out, World.grownBy.refl _ _⟩

set_option maxHeartbeats 3200000 in
theorem l20Floors_zero {w : World} {g Q : Nat} (hQ : Q + 20 ≤ 1000000) (r : Reads w g Q) :
    Calls Try.prog 70 #[.pointer (some ⟨g, 0, none⟩), .int .i64 0] w (DrawnF (Q + 20) w g) := by
  have hgl := r.lt
  have H := Lib.hid (r.alloc (.cells #[.int .i64 0] 3))
  clear r
  go_enter Try.func70, Try.ntmps70
  go_wp2_with fail
  refine (H.out.pick _ (by omega) (by omega)).mono ?_
  rintro e w1 ⟨x1, rfl, hp1, hr1, hg1⟩
  obtain ⟨p1, p2⟩ := picked_lit0 hp1 (by omega)
  have ho1 := ((Only.refl w.heap.size g w).alloc (Nat.le_refl _) (.cells #[.int .i64 0] 3)).picked hg1 (by simp)
  have hrow1 := (Row.one (w := w) (base := w.heap.size) 0 (Nat.le_refl _)).kept hg1 (.inr (by intro b e; cases e; left; omega))
  clear hp1 hg1
  obtain ⟨k1, rfl⟩ := Int.eq_ofNat_of_zero_le p1
  go_wp2
  go_loopw [5, 6, 7] (fun s5 s6 s7 wr => ∃ (k i : Nat) (A : Option Addr) (c : Nat) (f : Nat → Int) (a : Nat), s7 = .int .i64 k ∧ i + k ≤ 7 ∧ s5 = .slice A (i + 1) c ∧ s6 = .int .i64 a ∧ a ≤ 7 * i ∧ Row wr w.heap.size A (i + 1) c f ∧ Reads wr g (Q + 1 + i) ∧ Only w.heap.size g w wr) (fun _ _ s7 _ => (intOf s7).toNat)
  case atStart => exact ⟨k1, 0, _, _, _, 0, rfl, by omega, rfl, rfl, by omega, hrow1, hr1, ho1⟩
  case round =>
    obtain ⟨k, i, A, c, f, a, rfl, hik, rfl, rfl, hai, hrow, hr, ho⟩ := hrel
    clear hrow1 hr1 ho1 H
    by_cases hk : 0 < k
    · have HRow := Lib.hid hrow
      have HR := Lib.hid hr
      have HO := Lib.hid ho
      have hsz := ho.size
      clear hrow hr ho
      go_wp2_with fail
      refine (HR.out.pick _ (by omega) (by omega)).mono ?_
      rintro e w2 ⟨x2, rfl, hp2, hr2, hg2⟩
      obtain ⟨p3, p4⟩ := picked_lit0 hp2 (by omega)
      have HO2 := Lib.hid (HO.out.picked hg2 hsz)
      have HRow2 := Lib.hid (HRow.out.kept hg2 (.inr (by intro b e; cases e; left; omega)))
      have HR2 := Lib.hid hr2
      have hsz2 := HO2.out.size
      clear hp2 hr2 hg2 HO HRow HR
      obtain ⟨z, rfl⟩ := Int.eq_ofNat_of_zero_le p3
      go_wp2_with (at_builtin; refine append_int _ rfl _ _ rfl rfl (HRow2.out.alloc _) w2.heap.size ((a : Int) + 2 + z) rfl (by simp) (by omega) (by simp; omega) ?_; intro A3 c3 w3 hr3 hg3)
      have HO3 := Lib.hid ((HO2.out.alloc hsz2 _).grown hg3 (by simp; omega) (fun b e => .inl (HRow2.out.own b e)))
      have HR3 := Lib.hid ((HR2.out.alloc _).grown (base := w.heap.size) hg3 hgl HRow2.out.own)
      have HRow3 := Lib.hid hr3
      clear hr3 hg3
      go_wp2
      go_roundw
      case rel => exact ⟨k - 1, i + 1, A3, c3, _, a + 2 + z, by go_num, by omega, rfl, by go_num, by omega, HRow3.out, HR3.out.mono (by omega), HO3.out⟩
      case measure => simp [intOf]; omega
    · obtain rfl : k = 0 := by omega
      have HRow := Lib.hid hrow
      have HR := Lib.hid hr
      have HO := Lib.hid ho
      have hsz := ho.size
      clear hrow hr ho
      go_wp2_with fail
      refine (HR.out.odd0 (by omega)).mono ?_
      rintro e w2 ⟨rfl, hr2, hg2⟩
      have HO2 := Lib.hid (HO.out.picked hg2 hsz)
      have HRow2 := Lib.hid (HRow.out.kept hg2 (.inr (by intro b e; cases e; left; omega)))
      have HR2 := Lib.hid hr2
      have hsz2 := HO2.out.size
      clear hr2 hg2 HO HRow HR
      go_wp2
      go_ret
      exact ⟨A, i + 1, c, f, rfl, by omega, by omega, HRow2.out, HR2.out.mono (by omega), HO2.out.grow⟩

theorem makeB_zero (n : Nat) (hn : n ≤ 1000000000) : ∃ MC : Array Value, MC.toList = bvals (fun _ => false) n ∧ ∀ w : World, (Instr.makeSlice 30 (.int .i64 (n : Int)) (.int .i64 (n : Int))).run Try.prog w = .ok (.slice (some ⟨w.heap.size, 0, none⟩) n n) (w.alloc (.cells MC 4)) := by
  obtain ⟨i0, hi, hz0, hz1, hz2⟩ := info_parts Try.infoBool
  refine ⟨madeCells (Value.bool false).cells (n * i0.size), ?_, fun w => ?_⟩
  · rw [hz1]; exact bvals_made n
  · have hr := run_make (P := Try.prog) w 30 4 i0 (.bool false) Try.underlying30 hi hz0 .i64 .i64 n n (by omega) (Int.le_refl _) (by rw [hz2]; omega) (by omega)
    simp only [Int.toNat_natCast] at hr
    exact hr
theorem zero_row {W : World} {base g n : Nat} {MC : Array Value} (hm : n ≤ 8) (hM : MC.toList = bvals (fun _ => false) n) (hb : base ≤ g) (h : W.heap[g]? = some (.cells MC 4 (0, 0))) : RowB W base (some ⟨g, 0, none⟩) n n (fun _ => false) := by
  have hs : MC.size = n := by rw [← Array.length_toList, hM, bvals_length]
  refine ⟨by rw [bvals_length, Nat.mul_one], .inr ⟨g, n, _, rfl, hb, h, Nat.le_refl _, by unfold maxLen; omega, ?_, ?_⟩⟩
  · rw [hs]; simp
  · rw [hM, Nat.mul_one, List.take_of_length_le (by rw [bvals_length]; exact Nat.le_refl _)]
/-- Three rows, one behind the other, behind a box. -/
theorem rows4 {w : World} {o o1 o2 o3 : Obj} : ((((w.alloc o).alloc o1).alloc o2).alloc o3).heap[w.heap.size + 1]? = some o1 ∧ ((((w.alloc o).alloc o1).alloc o2).alloc o3).heap[w.heap.size + 1 + 1]? = some o2 ∧ ((((w.alloc o).alloc o1).alloc o2).alloc o3).heap[w.heap.size + 1 + 1 + 1]? = some o3 := by
  refine ⟨?_, ?_, ?_⟩
  · show ((((w.heap.push _).push _).push _).push _)[w.heap.size + 1]? = _
    rw [Array.getElem?_push, if_neg (by simp), Array.getElem?_push, if_neg (by simp), Array.getElem?_push, if_pos (by simp)]
  · show ((((w.heap.push _).push _).push _).push _)[w.heap.size + 1 + 1]? = _
    rw [Array.getElem?_push, if_neg (by simp), Array.getElem?_push, if_pos (by simp)]
  · show ((((w.heap.push _).push _).push _).push _)[w.heap.size + 1 + 1 + 1]? = _
    rw [Array.getElem?_push, if_pos (by simp)]
theorem below4 {w : World} {o o1 o2 o3 : Obj} : Below w.heap.size w ((((w.alloc o).alloc o1).alloc o2).alloc o3) :=
  ((((Below.refl w.heap.size w).alloc (Nat.le_refl _) o).alloc (by simp) o1).alloc (by simp <;> omega) o2).alloc (by simp <;> omega) o3
theorem apart_lit {a b : Nat} (h : a ≠ b) : Apart (some ⟨a, 0, none⟩) (some ⟨b, 0, none⟩) := by
  intro x y hx hy; cases hx; cases hy; exact h

set_option maxHeartbeats 3200000 in
theorem CallsNone_any {n : Nat} (hn1 : 1 ≤ n) (hn8 : n ≤ 8) (w : World) :
    Calls Try.prog 71 #[.int .i64 n] w fun e w' => ∃ U cu D cd C cc, e = .returned (.agg #[.slice U n cu, .slice D n cd, .slice C n cc]) ∧ OwnC w' w.heap.size U n cu (fun _ => false) D n cd (fun _ => false) C n cc (fun _ => false) ∧ Below w.heap.size w w' := by
  have HI : Hid (inB (n : Int) 1 8 = true) := Lib.hid (inB_iff.2 (by omega))
  obtain ⟨MC, hM, hmk⟩ := makeB_zero n (by omega)
  have HM := Lib.hid hM
  clear hM
  go_enter Try.func71, Try.ntmps71
  go_wp2_with fail
  refine (l1In_any _ _ _ _).mono ?_
  rintro e w1 ⟨rfl, rfl⟩
  rw [HI.out]
  go_wp2
  go_region
  all_goals go_wp2
  all_goals
    refine bodyPost_ret (v := .agg #[.slice (some ⟨_, 0, none⟩) n n, .slice (some ⟨_, 0, none⟩) n n, .slice (some ⟨_, 0, none⟩) n n]) (by simp [results, Try.results71, go_sem]; exact ⟨rfl, rfl, rfl⟩) rfl ⟨_, n, _, n, _, n, rfl, ⟨zero_row hn8 HM.out ?_ ?_, zero_row hn8 HM.out ?_ ?_, zero_row hn8 HM.out ?_ ?_, ?_, ?_, ?_⟩, ?_⟩
    all_goals first
      | exact rows4.1
      | exact rows4.2.1
      | exact rows4.2.2
      | exact apart_lit (by omega)
      | omega
      | exact below4.drew
      | exact below4
end Go.Proofs.Ytnbjibkbjdbadaa
