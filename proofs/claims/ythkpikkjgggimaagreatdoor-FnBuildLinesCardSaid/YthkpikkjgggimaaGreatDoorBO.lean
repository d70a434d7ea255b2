/-
  Texts DrawB, DrawD, DrawE in one. No claim stands here.
-/
import Derived.Test.YthkpikkjgggimaaGreatDoorBG
import Derived.Test.YthkpikkjgggimaaGreatDoorRun
import Derived.Test.YthkpikkjgggimaaGreatDoorBT
import Derived.Test.YthkpikkjgggimaaGreatDoorBE
import Derived.Test.YthkpikkjgggimaaGreatDoorSetK
namespace Go.Proofs.YthkpikkjgggimaaGreatDoor
open Go.RowKit
set_option linter.unusedVariables false
set_option linter.unusedSimpArgs false

theorem picked_lit0 {N x : Int} (h : Picked N x) (hN : 1 ≤ N) : 0 ≤ x ∧ x < N := ⟨h.1, h.2.1 hN⟩
/-- What a drawing of floors leaves: a row of the call's own of one to eight numbers, the reader at most at Q. -/
def DrawnF (Q : Nat) (w : World) (g : Nat) (e : Ending) (w' : World) : Prop :=
  ∃ A n c f, e = .returned (.slice A n c) ∧ 1 ≤ n ∧ n ≤ 8 ∧ Row w' w.heap.size A n c f ∧ Reads w' g Q ∧ w.grownBy w' (some g)
theorem Reads.odd0 {w : World} {g Q : Nat} (hQ : Q + 1 ≤ 1000000) (r : Reads w g Q) :
    Calls Tryz.prog 33 #[.pointer (some ⟨g, 0, none⟩), .int .i64 0] w fun e w' => e = .returned (.bool false) ∧ Reads w' g (Q + 1) ∧ w.grownBy w' (some g) := by
  have H := Lib.hid (r.mono (Nat.le_succ Q))
  clear r
  go_enter Tryz.func33, Tryz.ntmps33
  go_wp2
  go_ret
  exact ⟨rfl, H.out, World.grownBy.refl _ _⟩

set_option maxHeartbeats 3200000 in
theorem l20Floors_zero {w : World} {g Q : Nat} (hQ : Q + 20 ≤ 1000000) (r : Reads w g Q) :
    Calls Tryz.prog 80 #[.pointer (some ⟨g, 0, none⟩), .int .i64 0] w (DrawnF (Q + 20) w g) := by
  have hgl := r.lt
  have H := Lib.hid (r.alloc (.cells #[.int .i64 0] 3))
  clear r
  go_enter Tryz.func80, Tryz.ntmps80
  go_wp2_with fail
  refine (H.out.pick _ (by omega) (by omega)).mono ?_
  rintro e w1 ⟨x1, rfl, hp1, hr1, hg1⟩
  obtain ⟨p1, p2⟩ := picked_lit0 hp1 (by omega)
  have ho1 := ((Only.refl w.heap.size g w).alloc (Nat.le_refl _) (.cells #[.int .i64 0] 3)).picked hg1 (by simp)
  have hrow1 := (Row.one (w := w) (base := w.heap.size) 0 (Nat.le_refl _)).kept hg1 (.inr (by intro b e; cases e; left; omega))
  clear hp1 hg1
  obtain ⟨k1, rfl⟩ := Int.eq_ofNat_of_zero_le p1
  go_wp2
  go_loopw [5, 6, 7] (fun s5 s6 s7 wr => ∃ (k i : Nat) (A : Option Addr) (c : Nat) (f : Nat → Int) (a : Nat), s7 = .int .i64 k ∧ i + k ≤ 7 ∧ s5 = .slice A (i + 1) c ∧ s6 = .int .i64 a ∧ a ≤ 7 * i ∧ Row wr w.heap.size A (i + 1) c f ∧ Reads wr g (Q + 1 + i) ∧ Only w.heap.size g w wr) (fun _ _ s7 _ => (intOf s7).toNat)
  case atStart => exact ⟨k1, 0, _, _, _, 0, rfl, by omega, rfl, rfl, by omega, hrow1, hr1, ho1⟩
  case round =>
    obtain ⟨k, i, A, c, f, a, rfl, hik, rfl, rfl, hai, hrow, hr, ho⟩ := hrel
    clear hrow1 hr1 ho1 H
    by_cases hk : 0 < k
    · have HRow := Lib.hid hrow
      have HR := Lib.hid hr
      have HO := Lib.hid ho
      have hsz := ho.size
      clear hrow hr ho
      go_wp2_with fail
      refine (HR.out.pick _ (by omega) (by omega)).mono ?_
      rintro e w2 ⟨x2, rfl, hp2, hr2, hg2⟩
      obtain ⟨p3, p4⟩ := picked_lit0 hp2 (by omega)
      have HO2 := Lib.hid (HO.out.picked hg2 hsz)
      have HRow2 := Lib.hid (HRow.out.kept hg2 (.inr (by intro b e; cases e; left; omega)))
      have HR2 := Lib.hid hr2
      have hsz2 := HO2.out.size
      clear hp2 hr2 hg2 HO HRow HR
      obtain ⟨z, rfl⟩ := Int.eq_ofNat_of_zero_le p3
      go_wp2_with (at_builtin; refine append_int _ rfl _ _ rfl rfl (HRow2.out.alloc _) w2.heap.size ((a : Int) + 2 + z) rfl (by simp) (by omega) (by simp; omega) ?_; intro A3 c3 w3 hr3 hg3)
      have HO3 := Lib.hid ((HO2.out.alloc hsz2 _).grown hg3 (by simp; omega) (fun b e => .inl (HRow2.out.own b e)))
      have HR3 := Lib.hid ((HR2.out.alloc _).grown (base := w.heap.size) hg3 hgl HRow2.out.own)
      have HRow3 := Lib.hid hr3
      clear hr3 hg3
      go_wp2
      go_roundw
      case rel => exact ⟨k - 1, i + 1, A3, c3, _, a + 2 + z, by go_num, by omega, rfl, by go_num, by omega, HRow3.out, HR3.out.mono (by omega), HO3.out⟩
      case measure => simp [intOf]; omega
    · obtain rfl : k = 0 := by omega
      have HRow := Lib.hid hrow
      have HR := Lib.hid hr
      have HO := Lib.hid ho
      have hsz := ho.size
      clear hrow hr ho
      go_wp2_with fail
      refine (HR.out.odd0 (by omega)).mono ?_
      rintro e w2 ⟨rfl, hr2, hg2⟩
      have HO2 := Lib.hid (HO.out.picked hg2 hsz)
      have HRow2 := Lib.hid (HRow.out.kept hg2 (.inr (by intro b e; cases e; left; omega)))
      have HR2 := Lib.hid hr2
      have hsz2 := HO2.out.size
      clear hr2 hg2 HO HRow HR
      go_wp2
      go_ret
      exact ⟨A, i + 1, c, f, rfl, by omega, by omega, HRow2.out, HR2.out.mono (by omega), HO2.out.grow⟩

theorem makeB_zero (n : Nat) (hn : n ≤ 1000000000) : ∃ MC : Array Value, MC.toList = bvals (fun _ => false) n ∧ ∀ w : World, (Instr.makeSlice 30 (.int .i64 (n : Int)) (.int .i64 (n : Int))).run Tryz.prog w = .ok (.slice (some ⟨w.heap.size, 0, none⟩) n n) (w.alloc (.cells MC 4)) := by
  obtain ⟨i0, hi, hz0, hz1, hz2⟩ := info_parts Tryz.infoBool
  refine ⟨madeCells (Value.bool false).cells (n * i0.size), ?_, fun w => ?_⟩
  · rw [hz1]; exact bvals_made n
  · have hr := run_make (P := Tryz.prog) w 30 4 i0 (.bool false) Tryz.underlying30 hi hz0 .i64 .i64 n n (by omega) (Int.le_refl _) (by rw [hz2]; omega) (by omega)
    simp only [Int.toNat_natCast] at hr
    exact hr
theorem zero_row {W : World} {base g n : Nat} {MC : Array Value} (hm : n ≤ 8) (hM : MC.toList = bvals (fun _ => false) n) (hb : base ≤ g) (h : W.heap[g]? = some (.cells MC 4 (0, 0))) : RowB W base (some ⟨g, 0, none⟩) n n (fun _ => false) := by
  have hs : MC.size = n := by rw [← Array.length_toList, hM, bvals_length]
  refine ⟨by rw [bvals_length, Nat.mul_one], .inr ⟨g, n, _, rfl, hb, h, Nat.le_refl _, by unfold maxLen; omega, ?_, ?_⟩⟩
  · rw [hs]; simp
  · rw [hM, Nat.mul_one, List.take_of_length_le (by rw [bvals_length]; exact Nat.le_refl _)]
/-- Three rows, one behind the other, behind a box. -/
theorem rows4 {w : World} {o o1 o2 o3 : Obj} : ((((w.alloc o).alloc o1).alloc o2).alloc o3).heap[w.heap.size + 1]? = some o1 ∧ ((((w.alloc o).alloc o1).alloc o2).alloc o3).heap[w.heap.size + 1 + 1]? = some o2 ∧ ((((w.alloc o).alloc o1).alloc o2).alloc o3).heap[w.heap.size + 1 + 1 + 1]? = some o3 := by
  refine ⟨?_, ?_, ?_⟩
  · show ((((w.heap.push _).push _).push _).push _)[w.heap.size + 1]? = _
    rw [Array.getElem?_push, if_neg (by simp), Array.getElem?_push, if_neg (by simp), Array.getElem?_push, if_pos (by simp)]
  · show ((((w.heap.push _).push _).push _).push _)[w.heap.size + 1 + 1]? = _
    rw [Array.getElem?_push, if_neg (by simp), Array.getElem?_push, if_pos (by simp)]
  · show ((((w.heap.push _).push _).push _).push _)[w.heap.size + 1 + 1 + 1]? = _
    rw [Array.getElem?_push, if_pos (by simp)]
theorem below4 {w : World} {o o1 o2 o3 : Obj} : Below w.heap.size w ((((w.alloc o).alloc o1).alloc o2).alloc o3) :=
  ((((Below.refl w.heap.size w).alloc (Nat.le_refl _) o).alloc (by simp) o1).alloc (by simp <;> omega) o2).alloc (by simp <;> omega) o3
theorem apart_lit {a b : Nat} (h : a ≠ b) : Apart (some ⟨a, 0, none⟩) (some ⟨b, 0, none⟩) := by
  intro x y hx hy; cases hx; cases hy; exact h

set_option maxHeartbeats 3200000 in
theorem CallsNone_any {n : Nat} (hn1 : 1 ≤ n) (hn8 : n ≤ 8) (w : World) :
    Calls Tryz.prog 122 #[.int .i64 n] w fun e w' => ∃ U cu D cd C cc, e = .returned (.agg #[.slice U n cu, .slice D n cd, .slice C n cc]) ∧ OwnC w' w.heap.size U n cu (fun _ => false) D n cd (fun _ => false) C n cc (fun _ => false) ∧ Below w.heap.size w w' := by
  have HI : Hid (inB (n : Int) 1 8 = true) := Lib.hid (inB_iff.2 (by omega))
  obtain ⟨MC, hM, hmk⟩ := makeB_zero n (by omega)
  have HM := Lib.hid hM
  clear hM
  go_enter Tryz.func122, Tryz.ntmps122
  go_wp2_with fail
  refine (l1In_any _ _ _ _).mono ?_
  rintro e w1 ⟨rfl, rfl⟩
  rw [HI.out]
  go_wp2
  go_region
  all_goals go_wp2
  all_goals
    refine bodyPost_ret (v := .agg #[.slice (some ⟨_, 0, none⟩) n n, .slice (some ⟨_, 0, none⟩) n n, .slice (some ⟨_, 0, none⟩) n n]) (by simp [results, Tryz.results122, go_sem]; exact ⟨rfl, rfl, rfl⟩) rfl ⟨_, n, _, n, _, n, rfl, ⟨zero_row hn8 HM.out ?_ ?_, zero_row hn8 HM.out ?_ ?_, zero_row hn8 HM.out ?_ ?_, ?_, ?_, ?_⟩, ?_⟩
    all_goals first
      | exact rows4.1
      | exact rows4.2.1
      | exact rows4.2.2
      | exact apart_lit (by omega)
      | omega
      | exact below4.drew
      | exact below4
end Go.Proofs.YthkpikkjgggimaaGreatDoor

namespace Go.Proofs.YthkpikkjgggimaaGreatDoor
open Go.RowKit
set_option linter.unusedVariables false
set_option linter.unusedSimpArgs false

/-- Blocks from base on that are there stay as they are, but for block s. -/
def Grew (base s : Nat) (W W' : World) : Prop := W.heap.size ≤ W'.heap.size ∧ ∀ b, base ≤ b → b ≠ s → b < W.heap.size → W'.heap[b]? = W.heap[b]?
theorem Grew.refl (base s : Nat) (W : World) : Grew base s W W := ⟨Nat.le_refl _, fun _ _ _ _ => rfl⟩
theorem Grew.alloc (base s : Nat) (W : World) (o : Obj) : Grew base s W (W.alloc o) := by
  refine ⟨by simp, fun b _ _ hb => ?_⟩
  show (W.heap.push o)[b]? = _
  rw [Array.getElem?_push, if_neg (by omega)]
theorem Grew.picked {base s g : Nat} {W W' : World} (hg : W.grownBy W' (some g)) (h : g < base) : Grew base s W W' :=
  ⟨hg.size, fun b hb _ hlt => hg.block b hlt (by intro e; cases e; omega)⟩
theorem Grew.set {base s o : Nat} {W W' : World} (h : Grew base s W W') (v : Value) : Grew base s W (W'.setCell ⟨s, o, none⟩ v) :=
  ⟨by simpa using h.1, fun b hb hne hlt => (Below.heap_setCell _ _ _ _ (by intro e; exact hne e)).trans (h.2 b hb hne hlt)⟩
/-- A block of eight numbers. -/
def Eight (base s : Nat) (bl : Nat) (W : World) : Prop := base ≤ bl ∧ bl ≠ s ∧ bl < W.heap.size ∧ ∀ z : Nat, z < 8 → ∃ c : Int, W.cell? ⟨bl, z, none⟩ = some (.int .i64 c)
theorem Eight.grew {base s bl : Nat} {W W' : World} (h : Eight base s bl W) (g : Grew base s W W') : Eight base s bl W' := by
  obtain ⟨h1, h2, h3, h4⟩ := h
  refine ⟨h1, h2, Nat.lt_of_lt_of_le h3 g.1, fun z hz => ?_⟩
  obtain ⟨c, hc⟩ := h4 z hz
  exact ⟨c, (World.cell?_of_block (g.2 bl h1 h2 h3)).trans hc⟩
theorem Only.drewN {base g : Nat} {a w : World} (h : Only base g a w) (k : Nat) : Only base g a (w.drewN k) := ⟨h.os, h.tape, h.output, h.size, h.block⟩
def AnInt (v : Value) : Prop := ∃ c : Int, v = .int .i64 c
/-- What the operations of l20BuildDeed's region leave. -/
def DeedR (base s g n : Nat) (s0 : Value) : Nat → Value → World → Prop
  | 0, v, W => ∃ bl, v = .slice (some ⟨bl, 0, none⟩) 8 8 ∧ Eight base s bl W
  | 1, v, _ => v = .pointer (some ⟨g, 0, none⟩)
  | 2, v, _ => ∃ z : Nat, v = .int .i64 z ∧ z < 8
  | 3, v, W => ∃ bl z, v = .pointer (some ⟨bl, z, none⟩) ∧ z < 8 ∧ Eight base s bl W
  | 5, v, _ => v = .pointer (some ⟨g, 0, none⟩)
  | 10, v, _ => v = .pointer (some ⟨g, 0, none⟩)
  | 12, v, _ => v = .pointer (some ⟨g, 0, none⟩)
  | 13, v, _ => v = .pointer (some ⟨s - 1, 0, none⟩)
  | 14, v, _ => v = s0
  | 15, v, _ => v = .int .i64 n
  | 16, v, _ => v = .int .i64 ((n : Int) + 1)
  | 18, v, _ => v = .pointer (some ⟨g, 0, none⟩)
  | 22, v, _ => ∃ x y z : Int, v = .agg #[.int .i64 x, .int .i64 y, .int .i64 z]
  | 23, _, _ => True
  | _, v, _ => AnInt v
theorem DeedR.grew {base s g n : Nat} {s0 : Value} {W W' : World} (h : Grew base s W W') : ∀ j v, DeedR base s g n s0 j v W → DeedR base s g n s0 j v W' := by
  intro j v hj
  unfold DeedR at hj ⊢
  split at hj
  · obtain ⟨bl, e, he⟩ := hj; exact ⟨bl, e, he.grew h⟩
  all_goals first
    | exact hj
    | (obtain ⟨bl, z, e, hz, he⟩ := hj; exact ⟨bl, z, e, hz, he.grew h⟩)
theorem eight_new {base s : Nat} {W : World} {a0 a1 a2 a3 a4 a5 a6 a7 : Int} (hb : base ≤ W.heap.size) (hs : s < base) :
    ∃ bl, Value.slice (some ⟨W.heap.size, 0, none⟩) 8 8 = .slice (some ⟨bl, 0, none⟩) 8 8 ∧ Eight base s bl (W.alloc (.cells #[.int .i64 a0, .int .i64 a1, .int .i64 a2, .int .i64 a3, .int .i64 a4, .int .i64 a5, .int .i64 a6, .int .i64 a7] 3)) := by
  refine ⟨W.heap.size, rfl, hb, by omega, by simp, fun z hz => ?_⟩
  have hc := (Bx.new W #[.int .i64 a0, .int .i64 a1, .int .i64 a2, .int .i64 a3, .int .i64 a4, .int .i64 a5, .int .i64 a6, .int .i64 a7] 3).cells z
  rw [hc]
  rcases (by omega : z = 0 ∨ z = 1 ∨ z = 2 ∨ z = 3 ∨ z = 4 ∨ z = 5 ∨ z = 6 ∨ z = 7) with rfl | rfl | rfl | rfl | rfl | rfl | rfl | rfl <;> exact ⟨_, rfl⟩
theorem picked_nat8 {x : Int} (h : Picked 8 x) : ∃ z : Nat, Value.int .i64 x = .int .i64 z ∧ z < 8 := by
  obtain ⟨h0, h1, _⟩ := h
  have := h1 (by omega)
  exact ⟨x.toNat, by rw [Int.toNat_of_nonneg h0], by omega⟩
/-- What holds of the world in l20BuildDeed's region. -/
structure DeedG (w : World) (g Q : Nat) (xs : Array Value) (k : Nat) (W : World) : Prop where
  r : Reads W g (Q + k)
  o : Only w.heap.size g w W
  x : Bx W w.heap.size xs
  y : ∃ x y z : Int, Bx W (w.heap.size + 1) #[.int .i64 x, .int .i64 y, .int .i64 z]
theorem Bx.kept {w w' : World} {g b : Nat} {xs : Array Value} (h : Bx w b xs) (hg : w.grownBy w' (some g)) (hne : b ≠ g) : Bx w' b xs := by
  have hl := h.lt
  obtain ⟨T, h⟩ := h
  exact ⟨T, (hg.block b hl (by intro e; cases e; exact hne rfl)).trans h⟩
section
variable {w W W' : World} {g Q k : Nat} {xs : Array Value}
theorem DeedG.step (h : DeedG w g Q xs k W) : DeedG w g Q xs (k + 1) W := ⟨h.r.mono (by omega), h.o, h.x, h.y⟩
theorem DeedG.size (h : DeedG w g Q xs k W) : w.heap.size + 2 ≤ W.heap.size := by
  obtain ⟨_, _, _, h⟩ := h.y
  exact h.lt
theorem DeedG.alloc (h : DeedG w g Q xs k W) (o : Obj) : DeedG w g Q xs (k + 1) (W.alloc o) := by
  obtain ⟨x, y, z, hy⟩ := h.y
  exact ⟨(h.r.mono (by omega)).alloc o, h.o.alloc (by have := h.size; omega) o, h.x.alloc o, ⟨x, y, z, hy.alloc o⟩⟩
theorem DeedG.picked (h : DeedG w g Q xs k W) (hg : W.grownBy W' (some g)) (hr : Reads W' g (Q + k + 1)) (hgl : g < w.heap.size) : DeedG w g Q xs (k + 1) W' := by
  obtain ⟨x, y, z, hy⟩ := h.y
  exact ⟨hr, h.o.picked hg (by have := h.size; omega), h.x.kept hg (by omega), ⟨x, y, z, hy.kept hg (by omega)⟩⟩
theorem DeedG.stored (h : DeedG w g Q xs k W) (hgl : g < w.heap.size) (x y z : Int) : DeedG w g Q xs (k + 1) (((W.setCell ⟨w.heap.size + 1, 0, none⟩ (.int .i64 x)).setCell ⟨w.heap.size + 1, 1, none⟩ (.int .i64 y)).setCell ⟨w.heap.size + 1, 2, none⟩ (.int .i64 z)) := by
  obtain ⟨x', y', z', hy⟩ := h.y
  have hb : Below (w.heap.size + 1) W (((W.setCell ⟨w.heap.size + 1, 0, none⟩ (.int .i64 x)).setCell ⟨w.heap.size + 1, 1, none⟩ (.int .i64 y)).setCell ⟨w.heap.size + 1, 2, none⟩ (.int .i64 z)) :=
    (((Below.refl _ W).setCell (by simp) _).setCell (by simp) _).setCell (by simp) _
  refine ⟨(h.r.mono (by omega)).below hb (by omega), h.o.trans ⟨hb.os, hb.tape, hb.output, hb.size, fun k hk _ => hb.block k (by omega)⟩, h.x.below hb (by omega), ⟨x, y, z, ?_⟩⟩
  have := (((hy.set 0 (.int .i64 x)).set 1 (.int .i64 y)).set 2 (.int .i64 z))
  simpa using this
end

set_option maxRecDepth 4000 in
set_option maxHeartbeats 3200000 in
theorem l20BuildDeed_any {w : World} {g Q : Nat} {v : Bv} {b : Bld} (hQ : Q + 25 ≤ 1000000) (hn : b.n ≤ 100000000) (hr : Reads w g Q) :
    Calls Tryz.prog 83 #[.pointer (some ⟨g, 0, none⟩), bval v b] w fun e w' =>
      ∃ x y z : Int, e = .returned (.agg #[.int .i64 x, .int .i64 y, .int .i64 z]) ∧ Reads w' g (Q + 24) ∧ w.grownBy w' (some g) := by
  have hgl := hr.lt
  have hG0 : DeedG w g Q (bcells v b) 0 ((w.alloc (.cells (bcells v b) 36)).alloc (.cells #[.int .i64 0, .int .i64 0, .int .i64 0] 105)).drew := by
    have y := Bx.new (w.alloc (.cells (bcells v b) 36)) #[.int .i64 0, .int .i64 0, .int .i64 0] 105
    rw [show (w.alloc (.cells (bcells v b) 36)).heap.size = w.heap.size + 1 by simp] at y
    exact ⟨((hr.alloc _).alloc _).drewN 1, (((Only.refl w.heap.size g w).alloc (Nat.le_refl _) _).alloc (by simp) _).drewN 1, (Bx.new w (bcells v b) _).alloc _, ⟨0, 0, 0, y⟩⟩
  have HG0 := Lib.hid hG0
  clear hr hG0
  unfold bval bcells
  go_enter Tryz.func83, Tryz.ntmps83
  go_wp2_with fail
  rename_i Q' K hK
  refine wp_region_any (by kernel_rfl) ?_
  refine wpAny_typed 24 (fun i => i + 5) (fun i => i == 23) (DeedR (w.heap.size + 2) (w.heap.size + 1) g b.n (.slice v.A b.n v.c)) (DeedG w g Q (bcells v b)) rfl 28 rfl (by kernel_rfl) HG0.out ?_ ?_
  · intro a W U hR hG
    have h4 := U.other 4 (by intro i _; omega)
    have t4 : a.tmps[4]?.getD undef = .pointer (some ⟨w.heap.size + 1, 0, none⟩) := by simpa using h4
    obtain ⟨k, hk, hg⟩ := hG
    obtain ⟨x, y, z, hy⟩ := hg.y
    have c1 := hy.cells
    have hdf : a.defers = [] := congrArg Act.defers U.rest
    have HG := Lib.hid hg
    clear hg hy hR U h4
    refine hK _ _ ?_
    go_wp2
    refine bodyPost_ret (v := .agg #[.int .i64 x, .int .i64 y, .int .i64 z]) (by simp [results, Tryz.results83, go_sem, Act.eval, t4, c1]) (by first | rfl | exact hdf) ⟨x, y, z, rfl, HG.out.r.mono (by omega), HG.out.o.grow⟩
  · intro i o ho a W k U hG hk hd
    have hlt : i < 24 := (Array.getElem?_eq_some_iff.1 ho).1
    rcases (by omega : i = 0 ∨ i = 1 ∨ i = 2 ∨ i = 3 ∨ i = 4 ∨ i = 5 ∨ i = 6 ∨ i = 7 ∨ i = 8 ∨ i = 9 ∨ i = 10 ∨ i = 11 ∨ i = 12 ∨ i = 13 ∨ i = 14 ∨ i = 15 ∨ i = 16 ∨ i = 17 ∨ i = 18 ∨ i = 19 ∨ i = 20 ∨ i = 21 ∨ i = 22 ∨ i = 23) with rfl | rfl | rfl | rfl | rfl | rfl | rfl | rfl | rfl | rfl | rfl | rfl | rfl | rfl | rfl | rfl | rfl | rfl | rfl | rfl | rfl | rfl | rfl | rfl
    all_goals (refine wpOp_of ho (by cases ho; rfl) ?_; cases ho)
    · unfold Oper.wp
      simp [go_sem, Act.eval]
      refine ⟨hG.alloc _, fun j v _ h => h.grew (Grew.alloc _ _ _ _), .inl ⟨rfl, _, rfl, ?_⟩⟩
      exact eight_new hG.size (by omega)
    · have h0 := U.other 0 (by intro i _; omega)
      have t0 : a.tmps[0]?.getD undef = .pointer (some ⟨g, 0, none⟩) := by simpa using h0
      unfold Oper.wp
      simp [go_sem, Act.eval, t0]
      exact ⟨hG.step, fun j v _ h => h, .inl ⟨rfl, _, rfl, rfl⟩⟩
    · have h1 := hd ⟨1, .data⟩ (by simp) rfl
      have t6 : a.tmps[6]?.getD undef = .pointer (some ⟨g, 0, none⟩) := by simpa [DeedR] using h1
      unfold Oper.wp
      simp [go_sem, Act.eval, t6]
      refine (hG.r.pick 8 (by omega) (by omega)).mono ?_
      rintro e w' ⟨x, rfl, hp, hr, hg⟩
      refine ⟨hG.picked hg hr hgl, fun j v _ h => h.grew (Grew.picked hg (by omega)), .inl ⟨rfl, _, rfl, ?_⟩⟩
      exact picked_nat8 hp
    · obtain ⟨bl, h0, he⟩ := hd ⟨0, .data⟩ (by simp) rfl
      obtain ⟨z, h2, hz⟩ := hd ⟨2, .data⟩ (by simp) rfl
      have t5 : a.tmps[5]?.getD undef = .slice (some ⟨bl, 0, none⟩) 8 8 := by simpa using h0
      have t7 : a.tmps[7]?.getD undef = .int .i64 z := by simpa using h2
      have hz' : (z : Int) < 8 := by omega
      unfold Oper.wp
      simp [go_sem, Act.eval, t5, t7, hz']
      exact ⟨hG.step, fun j v _ h => h, .inl ⟨rfl, _, rfl, ⟨bl, z, rfl, hz, he⟩⟩⟩
    · obtain ⟨bl, z, h3, hz, he⟩ := hd ⟨3, .data⟩ (by simp) rfl
      have t8 : a.tmps[8]?.getD undef = .pointer (some ⟨bl, z, none⟩) := by simpa using h3
      obtain ⟨c, hc⟩ := he.2.2.2 z hz
      unfold Oper.wp
      simp [go_sem, Act.eval, t8, hc]
      exact ⟨hG.step, fun j v _ h => h, .inl ⟨rfl, _, rfl, ⟨c, rfl⟩⟩⟩
    · have h0 := U.other 0 (by intro i _; omega)
      have t0 : a.tmps[0]?.getD undef = .pointer (some ⟨g, 0, none⟩) := by simpa using h0
      unfold Oper.wp
      simp [go_sem, Act.eval, t0]
      exact ⟨hG.step, fun j v _ h => h, .inl ⟨rfl, _, rfl, rfl⟩⟩
    · have h5 := hd ⟨5, .data⟩ (by simp) rfl
      have t10 : a.tmps[10]?.getD undef = .pointer (some ⟨g, 0, none⟩) := by simpa [DeedR] using h5
      unfold Oper.wp
      simp [go_sem, Act.eval, t10]
      refine (hG.r.pick 60 (by omega) (by omega)).mono ?_
      rintro e w' ⟨x, rfl, hp, hr, hg⟩
      refine ⟨hG.picked hg hr hgl, fun j v _ h => h.grew (Grew.picked hg (by omega)), .inl ⟨rfl, _, rfl, ?_⟩⟩
      exact ⟨_, rfl⟩
    · obtain ⟨c11, h11⟩ := hd ⟨6, .data⟩ (by simp) rfl
      have t11 : a.tmps[11]?.getD undef = .int .i64 c11 := by simpa using h11
      unfold Oper.wp
      simp [go_sem, Act.eval, t11]
      exact ⟨hG.step, fun j v _ h => h, .inl ⟨rfl, _, rfl, ⟨_, rfl⟩⟩⟩
    · obtain ⟨c12, h12⟩ := hd ⟨7, .data⟩ (by simp) rfl
      have t12 : a.tmps[12]?.getD undef = .int .i64 c12 := by simpa using h12
      unfold Oper.wp
      simp [go_sem, Act.eval, t12]
      exact ⟨hG.step, fun j v _ h => h, .inl ⟨rfl, _, rfl, ⟨_, rfl⟩⟩⟩
    · obtain ⟨c9, h9⟩ := hd ⟨4, .data⟩ (by simp) rfl
      have t9 : a.tmps[9]?.getD undef = .int .i64 c9 := by simpa using h9
      obtain ⟨c13, h13⟩ := hd ⟨8, .data⟩ (by simp) rfl
      have t13 : a.tmps[13]?.getD undef = .int .i64 c13 := by simpa using h13
      unfold Oper.wp
      simp [go_sem, Act.eval, t9, t13]
      exact ⟨hG.step, fun j v _ h => h, .inl ⟨rfl, _, rfl, ⟨_, rfl⟩⟩⟩
    · have h0 := U.other 0 (by intro i _; omega)
      have t0 : a.tmps[0]?.getD undef = .pointer (some ⟨g, 0, none⟩) := by simpa using h0
      unfold Oper.wp
      simp [go_sem, Act.eval, t0]
      exact ⟨hG.step, fun j v _ h => h, .inl ⟨rfl, _, rfl, rfl⟩⟩
    · have h10 := hd ⟨10, .data⟩ (by simp) rfl
      have t15 : a.tmps[15]?.getD undef = .pointer (some ⟨g, 0, none⟩) := by simpa [DeedR] using h10
      unfold Oper.wp
      simp [go_sem, Act.eval, t15]
      refine (hG.r.pick 3 (by omega) (by omega)).mono ?_
      rintro e w' ⟨x, rfl, hp, hr, hg⟩
      refine ⟨hG.picked hg hr hgl, fun j v _ h => h.grew (Grew.picked hg (by omega)), .inl ⟨rfl, _, rfl, ?_⟩⟩
      exact ⟨_, rfl⟩
    · have h0 := U.other 0 (by intro i _; omega)
      have t0 : a.tmps[0]?.getD undef = .pointer (some ⟨g, 0, none⟩) := by simpa using h0
      unfold Oper.wp
      simp [go_sem, Act.eval, t0]
      exact ⟨hG.step, fun j v _ h => h, .inl ⟨rfl, _, rfl, rfl⟩⟩
    · have h3 := U.other 3 (by intro i _; omega)
      have t3 : a.tmps[3]?.getD undef = .pointer (some ⟨w.heap.size, 0, none⟩) := by simpa using h3
      unfold Oper.wp
      simp [go_sem, Act.eval, t3]
      exact ⟨hG.step, fun j v _ h => h, .inl ⟨rfl, _, rfl, rfl⟩⟩
    · have h13 := hd ⟨13, .data⟩ (by simp) rfl
      have t18 : a.tmps[18]?.getD undef = .pointer (some ⟨w.heap.size, 0, none⟩) := by simpa [DeedR] using h13
      have c := hG.x.cells
      unfold bcells at c
      unfold Oper.wp
      simp [go_sem, Act.eval, t18, c]
      exact ⟨hG.step, fun j v _ h => h, .inl ⟨rfl, _, rfl, rfl⟩⟩
    · have h14 := hd ⟨14, .data⟩ (by simp) rfl
      have t19 : a.tmps[19]?.getD undef = .slice v.A b.n v.c := by simpa [DeedR] using h14
      unfold Oper.wp
      simp [go_sem, Act.eval, t19]
      exact ⟨hG.step, fun j v _ h => h, .inl ⟨rfl, _, rfl, rfl⟩⟩
    · have h15 := hd ⟨15, .data⟩ (by simp) rfl
      have t20 : a.tmps[20]?.getD undef = .int .i64 b.n := by simpa [DeedR] using h15
      have hw : IntKind.i64.wrap ((b.n : Int) + 1) = (b.n : Int) + 1 := IntWalk.i64_in _ (by omega)
      unfold Oper.wp
      simp [go_sem, Act.eval, t20, hw]
      exact ⟨hG.step, fun j v _ h => h, .inl ⟨rfl, _, rfl, rfl⟩⟩
    · have h12 := hd ⟨12, .data⟩ (by simp) rfl
      have t17 : a.tmps[17]?.getD undef = .pointer (some ⟨g, 0, none⟩) := by simpa [DeedR] using h12
      have h16 := hd ⟨16, .data⟩ (by simp) rfl
      have t21 : a.tmps[21]?.getD undef = .int .i64 ((b.n : Int) + 1) := by simpa [DeedR] using h16
      unfold Oper.wp
      simp [go_sem, Act.eval, t17, t21]
      refine (hG.r.pick ((b.n : Int) + 1) (by omega) (by omega)).mono ?_
      rintro e w' ⟨x, rfl, hp, hr, hg⟩
      refine ⟨hG.picked hg hr hgl, fun j v _ h => h.grew (Grew.picked hg (by omega)), .inl ⟨rfl, _, rfl, ?_⟩⟩
      exact ⟨_, rfl⟩
    · have h0 := U.other 0 (by intro i _; omega)
      have t0 : a.tmps[0]?.getD undef = .pointer (some ⟨g, 0, none⟩) := by simpa using h0
      unfold Oper.wp
      simp [go_sem, Act.eval, t0]
      exact ⟨hG.step, fun j v _ h => h, .inl ⟨rfl, _, rfl, rfl⟩⟩
    · have h18 := hd ⟨18, .data⟩ (by simp) rfl
      have t23 : a.tmps[23]?.getD undef = .pointer (some ⟨g, 0, none⟩) := by simpa [DeedR] using h18
      unfold Oper.wp
      simp [go_sem, Act.eval, t23]
      refine (hG.r.pick 40 (by omega) (by omega)).mono ?_
      rintro e w' ⟨x, rfl, hp, hr, hg⟩
      refine ⟨hG.picked hg hr hgl, fun j v _ h => h.grew (Grew.picked hg (by omega)), .inl ⟨rfl, _, rfl, ?_⟩⟩
      exact ⟨_, rfl⟩
    · obtain ⟨c24, h24⟩ := hd ⟨19, .data⟩ (by simp) rfl
      have t24 : a.tmps[24]?.getD undef = .int .i64 c24 := by simpa using h24
      unfold Oper.wp
      simp [go_sem, Act.eval, t24]
      exact ⟨hG.step, fun j v _ h => h, .inl ⟨rfl, _, rfl, ⟨_, rfl⟩⟩⟩
    · obtain ⟨c22, h22⟩ := hd ⟨17, .data⟩ (by simp) rfl
      have t22 : a.tmps[22]?.getD undef = .int .i64 c22 := by simpa using h22
      obtain ⟨c25, h25⟩ := hd ⟨20, .data⟩ (by simp) rfl
      have t25 : a.tmps[25]?.getD undef = .int .i64 c25 := by simpa using h25
      unfold Oper.wp
      simp [go_sem, Act.eval, t22, t25]
      exact ⟨hG.step, fun j v _ h => h, .inl ⟨rfl, _, rfl, ⟨_, rfl⟩⟩⟩
    · obtain ⟨x, h9⟩ := hd ⟨9, .data⟩ (by simp) rfl
      obtain ⟨y, h11⟩ := hd ⟨11, .data⟩ (by simp) rfl
      obtain ⟨z, h21⟩ := hd ⟨21, .data⟩ (by simp) rfl
      have t14 : a.tmps[14]?.getD undef = .int .i64 x := by simpa using h9
      have t16 : a.tmps[16]?.getD undef = .int .i64 y := by simpa using h11
      have t26 : a.tmps[26]?.getD undef = .int .i64 z := by simpa using h21
      unfold Oper.wp
      simp [go_sem, Act.eval, t14, t16, t26]
      exact ⟨hG.step, fun j v _ h => h, .inl ⟨rfl, _, rfl, ⟨x, y, z, rfl⟩⟩⟩
    · obtain ⟨x, y, z, h22⟩ := hd ⟨22, .data⟩ (by simp) rfl
      have t27 : a.tmps[27]?.getD undef = .agg #[.int .i64 x, .int .i64 y, .int .i64 z] := by simpa using h22
      have h4 := U.other 4 (by intro i _; omega)
      have t4 : a.tmps[4]?.getD undef = .pointer (some ⟨w.heap.size + 1, 0, none⟩) := by simpa using h4
      obtain ⟨x', y', z', hy⟩ := hG.y
      have c := hy.cells
      have f := hy.free
      unfold Oper.wp
      simp [go_sem, Act.eval, t27, t4, c, f]
      exact ⟨hG.stored hgl x y z, fun j v _ h => h.grew (((Grew.refl _ _ _).set _).set _ |>.set _), .inr ⟨rfl, trivial⟩⟩
end Go.Proofs.YthkpikkjgggimaaGreatDoor

namespace Go.Proofs.YthkpikkjgggimaaGreatDoor
open Go.RowKit
set_option linter.unusedVariables false
set_option linter.unusedSimpArgs false

/-- Block b is a box of calls. -/
def CBox (W : World) (b : Nat) (x y z : Value) : Prop := W.heap[b]? = some (.cells #[x, y, z] 32 (0, 0))
theorem CBox.bx {W : World} {b : Nat} {x y z : Value} (h : CBox W b x y z) : Bx W b #[x, y, z] := ⟨_, h⟩
theorem CBox.kept {W W' : World} {b g : Nat} {x y z : Value} (h : CBox W b x y z) (hg : W.grownBy W' (some g)) (hne : b ≠ g) : CBox W' b x y z :=
  (hg.block b h.bx.lt (by intro e; cases e; exact hne rfl)).trans h
theorem CBox.below {W W' : World} {b : Nat} {x y z : Value} (h : CBox W b x y z) (hb : Below W.heap.size W W') : CBox W' b x y z := (hb.block b h.bx.lt).trans h
theorem CBox.far {W : World} {b : Nat} {x y z : Value} (h : CBox W b x y z) (p : Addr) (v : Value) (hp : p.block ≠ b) : CBox (W.setCell p v) b x y z :=
  (Below.heap_setCell _ _ _ _ (by intro e; exact hp e.symm)).trans h
theorem CBox.put {W : World} {b : Nat} {x y z : Value} (h : CBox W b x y z) (x' y' z' : Value) : CBox (((W.setCell ⟨b, 0, none⟩ x').setCell ⟨b, 1, none⟩ y').setCell ⟨b, 2, none⟩ z') b x' y' z' := by
  unfold CBox at h ⊢
  simp [World.setCell, Array.getElem?_modify, h]
/-- Lists of truths from base on stay as they are. -/
def Stay (base : Nat) (W W' : World) : Prop := W.heap.size ≤ W'.heap.size ∧ ∀ b, base ≤ b → ∀ cur fz, W.heap[b]? = some (.cells cur 4 fz) → W'.heap[b]? = W.heap[b]?
theorem some_lt {W : World} {b : Nat} {o : Obj} (h : W.heap[b]? = some o) : b < W.heap.size := by
  rcases Nat.lt_or_ge b W.heap.size with hlt | hge
  · exact hlt
  · rw [Array.getElem?_eq_none hge] at h; cases h
theorem Stay.refl (base : Nat) (W : World) : Stay base W W := ⟨Nat.le_refl _, fun _ _ _ _ _ => rfl⟩
theorem Stay.below {base : Nat} {W W' : World} (hb : Below W.heap.size W W') : Stay base W W' := ⟨hb.size, fun b _ cur fz h => hb.block b (some_lt h)⟩
theorem Stay.picked {base g : Nat} {W W' : World} (hg : W.grownBy W' (some g)) (h : g < base) : Stay base W W' :=
  ⟨hg.size, fun b hb cur fz hc => hg.block b (some_lt hc) (by intro e; cases e; omega)⟩
theorem Stay.far {base b : Nat} {W : World} {x y z : Value} (h : CBox W b x y z) (o : Nat) (v : Value) : Stay base W (W.setCell ⟨b, o, none⟩ v) :=
  ⟨by simp, fun b' _ cur fz hc => Below.heap_setCell _ _ _ _ (by intro e; simp at e; subst e; rw [h] at hc; cases hc)⟩
theorem Stay.put {base b : Nat} {W : World} {x y z : Value} (h : CBox W b x y z) (x' y' z' : Value) : Stay base W (((W.setCell ⟨b, 0, none⟩ x').setCell ⟨b, 1, none⟩ y').setCell ⟨b, 2, none⟩ z') := by
  refine ⟨by simp, fun b' _ cur fz hc => ?_⟩
  have hne : b' ≠ b := by intro e; subst e; rw [h] at hc; cases hc
  exact ((Below.heap_setCell _ _ _ _ (by intro e; exact hne e)).trans (Below.heap_setCell _ _ _ _ (by intro e; exact hne e))).trans (Below.heap_setCell _ _ _ _ (by intro e; exact hne e))
theorem RowB.stay {W W' : World} {base n c : Nat} {A : Option Addr} {f : Nat → Bool} (h : RowB W base A n c f) (s : Stay base W W') : RowB W' base A n c f := by
  refine ⟨h.1, ?_⟩
  rcases h.2 with h' | ⟨b, cap, cur, hv, hbb, hh, r⟩
  · exact .inl h'
  · exact .inr ⟨b, cap, cur, hv, hbb, (s.2 b hbb _ _ hh).trans hh, r⟩
/-- x, y, z are valid calls of the call's own. -/
def OwnCs (W : World) (base n : Nat) (x y z : Value) : Prop :=
  ∃ U cu D cd C cc up dn car, x = .slice U n cu ∧ y = .slice D n cd ∧ z = .slice C n cc ∧ callsB n n n up dn = true ∧ OwnC W base U n cu up D n cd dn C n cc car
theorem OwnCs.stay {W W' : World} {base n : Nat} {x y z : Value} (h : OwnCs W base n x y z) (s : Stay base W W') : OwnCs W' base n x y z := by
  obtain ⟨U, cu, D, cd, C, cc, up, dn, car, h1, h2, h3, hv, ho⟩ := h
  exact ⟨U, cu, D, cd, C, cc, up, dn, car, h1, h2, h3, hv, ⟨ho.u.stay s, ho.d.stay s, ho.c.stay s, ho.ud, ho.uc, ho.dc⟩⟩
/-- What the operations of l20Calls's region leave. -/
def CallR (base g g7 n : Nat) (x y z : Value) : Nat → Value → World → Prop
  | 0, v, _ => v = .agg #[x, y, z]
  | 1, v, _ => v = .pointer (some ⟨g, 0, none⟩)
  | 3, v, _ => v = .pointer (some ⟨g, 0, none⟩)
  | 4, v, _ => v = .int .i64 n
  | 5, v, _ => v = .int .i64 n
  | 7, v, W => ∃ x' y' z' ok, v = .tuple #[.agg #[x', y', z'], .bool ok] ∧ OwnCs W base n x' y' z'
  | 8, v, W => ∃ x' y' z' ok, v = .tuple #[.agg #[x', y', z'], .bool ok] ∧ OwnCs W base n x' y' z'
  | 9, v, W => ∃ x' y' z', v = .agg #[x', y', z'] ∧ OwnCs W base n x' y' z'
  | 10, v, _ => ∃ ok, v = .bool ok
  | 11, v, W => ∃ b x' y' z', v = .pointer (some ⟨b, 0, none⟩) ∧ g7 < b ∧ CBox W b x' y' z'
  | 12, v, W => ∃ b x' y' z', v = .pointer (some ⟨b, 0, none⟩) ∧ g7 < b ∧ CBox W b x' y' z' ∧ OwnCs W base n x' y' z'
  | 13, v, _ => ∃ ok, v = .bool ok
  | _, v, _ => AnInt v
/-- Boxes of calls behind block g7 stay as they are. -/
def StayC (g7 : Nat) (W W' : World) : Prop := ∀ b x y z, g7 < b → CBox W b x y z → CBox W' b x y z
theorem CallR.keep {base g g7 n : Nat} {x y z : Value} {W W' : World} (s : Stay base W W') (c : StayC g7 W W') : ∀ j v, CallR base g g7 n x y z j v W → CallR base g g7 n x y z j v W' := by
  intro j v hj
  unfold CallR at hj ⊢
  split at hj
  all_goals first
    | exact hj
    | (obtain ⟨a, b, d, e, h1, h2⟩ := hj; exact ⟨a, b, d, e, h1, h2.stay s⟩)
    | (obtain ⟨a, b, d, h1, h2⟩ := hj; exact ⟨a, b, d, h1, h2.stay s⟩)
    | (obtain ⟨b, x', y', z', h1, h2, h3⟩ := hj; exact ⟨b, x', y', z', h1, h2, c _ _ _ _ h2 h3⟩)
    | (obtain ⟨b, x', y', z', h1, h2, h3, h4⟩ := hj; exact ⟨b, x', y', z', h1, h2, c _ _ _ _ h2 h3, h4.stay s⟩)
theorem CallR.put {base g g7 n b : Nat} {x y z a0 a1 a2 : Value} {W : World} (h : CBox W b a0 a1 a2) (x' y' z' : Value) : ∀ j v, j ≠ 12 → CallR base g g7 n x y z j v W → CallR base g g7 n x y z j v (((W.setCell ⟨b, 0, none⟩ x').setCell ⟨b, 1, none⟩ y').setCell ⟨b, 2, none⟩ z') := by
  intro j v hne hj
  have s := Stay.put (base := base) h x' y' z'
  unfold CallR at hj ⊢
  split at hj
  all_goals first
    | exact hj
    | exact absurd rfl hne
    | (obtain ⟨a, b, d, e, h1, h2⟩ := hj; exact ⟨a, b, d, e, h1, h2.stay s⟩)
    | (obtain ⟨a, b, d, h1, h2⟩ := hj; exact ⟨a, b, d, h1, h2.stay s⟩)
    | skip
  obtain ⟨b', c0, c1, c2, h1, h2, h3⟩ := hj
  by_cases e : b' = b
  · subst e
    exact ⟨_, _, _, _, h1, h2, h.put _ _ _⟩
  · exact ⟨b', c0, c1, c2, h1, h2, ((h3.far _ _ (by simp; omega)).far _ _ (by simp; omega)).far _ _ (by simp; omega)⟩
/-- What holds of the world in l20Calls's region. -/
structure CallG (w : World) (base g g7 Q n : Nat) (x y z : Value) (k : Nat) (W : World) : Prop where
  r : Reads W g (Q + k)
  o : Only w.heap.size g w W
  h : w.heap.size < W.heap.size
  c6 : CBox W w.heap.size (.slice none 0 0) (.slice none 0 0) (.slice none 0 0)
  c7 : CBox W g7 x y z
  own : OwnCs W base n x y z
section
variable {w W W' : World} {base g g7 Q k n : Nat} {x y z : Value}
theorem CallG.step (h : CallG w base g g7 Q n x y z k W) : CallG w base g g7 Q n x y z (k + 1) W := ⟨h.r.mono (by omega), h.o, h.h, h.c6, h.c7, h.own⟩
theorem CallG.below (h : CallG w base g g7 Q n x y z k W) (hb : Below W.heap.size W W') : CallG w base g g7 Q n x y z (k + 1) W' :=
  ⟨(h.r.mono (by omega)).below hb h.r.lt, h.o.trans ⟨hb.os, hb.tape, hb.output, hb.size, fun k hk _ => hb.block k (by have := h.o.size; omega)⟩, Nat.lt_of_lt_of_le h.h hb.size, h.c6.below hb, h.c7.below hb, h.own.stay (Stay.below hb)⟩
theorem CallG.picked (h : CallG w base g g7 Q n x y z k W) (hg : W.grownBy W' (some g)) (hr : Reads W' g (Q + k + 1)) (hgl : g < w.heap.size) (hb : w.heap.size < base) (h7 : w.heap.size < g7) : CallG w base g g7 Q n x y z (k + 1) W' :=
  ⟨hr, h.o.picked hg (Nat.le_of_lt h.h), Nat.lt_of_lt_of_le h.h hg.size, h.c6.kept hg (by omega), h.c7.kept hg (by omega), h.own.stay (Stay.picked hg (by omega))⟩
theorem CallG.stored (h : CallG w base g g7 Q n x y z k W) (hgl : g < w.heap.size) (h7 : w.heap.size < g7) {b : Nat} {a0 a1 a2 : Value} (hb : CBox W b a0 a1 a2) (hlt : g7 < b) (x' y' z' : Value) :
    CallG w base g g7 Q n x y z (k + 1) (((W.setCell ⟨b, 0, none⟩ x').setCell ⟨b, 1, none⟩ y').setCell ⟨b, 2, none⟩ z') := by
  have hbl : Below b W (((W.setCell ⟨b, 0, none⟩ x').setCell ⟨b, 1, none⟩ y').setCell ⟨b, 2, none⟩ z') := (((Below.refl b W).setCell (p := ⟨b, 0, none⟩) (Nat.le_refl b) x').setCell (p := ⟨b, 1, none⟩) (Nat.le_refl b) y').setCell (p := ⟨b, 2, none⟩) (Nat.le_refl b) z'
  exact ⟨(h.r.mono (by omega)).below hbl (by omega), h.o.trans ⟨hbl.os, hbl.tape, hbl.output, hbl.size, fun k hk _ => hbl.block k (by omega)⟩, by simpa using h.h, ((h.c6.far _ _ (by simp; omega)).far _ _ (by simp; omega)).far _ _ (by simp; omega), ((h.c7.far _ _ (by simp; omega)).far _ _ (by simp; omega)).far _ _ (by simp; omega), h.own.stay (Stay.put hb _ _ _)⟩
theorem CallG.swap (h : CallG w base g g7 Q n x y z k W) (hgl : g < w.heap.size) (h7 : w.heap.size < g7) {x' y' z' : Value} (ho : OwnCs W base n x' y' z') :
    CallG w base g g7 Q n x' y' z' k (((W.setCell ⟨g7, 0, none⟩ x').setCell ⟨g7, 1, none⟩ y').setCell ⟨g7, 2, none⟩ z') := by
  have hbl : Below g7 W (((W.setCell ⟨g7, 0, none⟩ x').setCell ⟨g7, 1, none⟩ y').setCell ⟨g7, 2, none⟩ z') := (((Below.refl g7 W).setCell (p := ⟨g7, 0, none⟩) (Nat.le_refl g7) x').setCell (p := ⟨g7, 1, none⟩) (Nat.le_refl g7) y').setCell (p := ⟨g7, 2, none⟩) (Nat.le_refl g7) z'
  exact ⟨h.r.below hbl (by omega), h.o.trans ⟨hbl.os, hbl.tape, hbl.output, hbl.size, fun k hk _ => hbl.block k (by omega)⟩, by simpa using h.h, ((h.c6.far _ _ (by simp; omega)).far _ _ (by simp; omega)).far _ _ (by simp; omega), h.c7.put _ _ _, ho.stay (Stay.put h.c7 _ _ _)⟩
theorem CallG.weak {Q' k' : Nat} (h : CallG w base g g7 Q n x y z k W) (hq : Q + k ≤ Q' + k') : CallG w base g g7 Q' n x y z k' W := ⟨h.r.mono hq, h.o, h.h, h.c6, h.c7, h.own⟩
theorem StayC.below (hb : Below W.heap.size W W') : StayC g7 W W' := fun b x y z _ h => h.below hb
theorem StayC.picked (hg : W.grownBy W' (some g)) (h : g < g7) : StayC g7 W W' := fun b x y z hlt h => h.kept hg (by omega)
end
/-- What a drawing of calls leaves. -/
def DrawnC (Q n : Nat) (w : World) (g : Nat) (e : Ending) (w' : World) : Prop :=
  ∃ U cu D cd C cc up dn car, e = .returned (.agg #[.slice U n cu, .slice D n cd, .slice C n cc]) ∧ callsB n n n up dn = true ∧ OwnC w' w.heap.size U n cu up D n cd dn C n cc car ∧ Reads w' g Q ∧ w.grownBy w' (some g)
theorem callsB_none {n : Nat} (h1 : 1 ≤ n) (h8 : n ≤ 8) : callsB n n n (fun _ => false) (fun _ => false) = true := callsB_iff.2 ⟨h1, h8, rfl, rfl, rfl, rfl⟩

set_option maxRecDepth 8000 in
set_option maxHeartbeats 12800000 in
theorem l20Calls_any {w : World} {g Q n : Nat} (hn1 : 1 ≤ n) (hn8 : n ≤ 8) (hQ : Q + 200 ≤ 1000000) (r : Reads w g Q) :
    Calls Tryz.prog 81 #[.pointer (some ⟨g, 0, none⟩), .int .i64 n, .int .i64 0] w (DrawnC (Q + 200) n w g) := by
  have hgl := r.lt
  have H := Lib.hid r
  clear r
  unfold DrawnC
  go_enter Tryz.func81, Tryz.ntmps81
  go_wp2_with fail
  refine (CallsNone_any hn1 hn8 _).mono ?_
  rintro e w1 ⟨U, cu, D, cd, C, cc, rfl, hk, hb1⟩
  have hs1 : w.heap.size + 1 ≤ w1.heap.size := by have := hb1.size; simpa using this
  have hG : CallG w (w.heap.size + 1) g w1.heap.size Q n (.slice U n cu) (.slice D n cd) (.slice C n cc) 0 (w1.alloc (.cells #[.slice U n cu, .slice D n cd, .slice C n cc] 32)) := by
    have hr0 := H.out.alloc (.cells #[.slice none 0 0, .slice none 0 0, .slice none 0 0] 32)
    have c6 : CBox (w.alloc (.cells #[.slice none 0 0, .slice none 0 0, .slice none 0 0] 32)) w.heap.size (.slice none 0 0) (.slice none 0 0) (.slice none 0 0) := by
      show (w.heap.push _)[w.heap.size]? = _; simp
    have c7 : CBox (w1.alloc (.cells #[.slice U n cu, .slice D n cd, .slice C n cc] 32)) w1.heap.size (.slice U n cu) (.slice D n cd) (.slice C n cc) := by
      show (w1.heap.push _)[w1.heap.size]? = _; simp
    have hba := (Below.refl w1.heap.size w1).alloc (Nat.le_refl _) (.cells #[.slice U n cu, .slice D n cd, .slice C n cc] 32)
    have ho1 := (Only.refl w.heap.size g w).alloc (Nat.le_refl _) (.cells #[.slice none 0 0, .slice none 0 0, .slice none 0 0] 32)
    refine ⟨(hr0.below hb1 hr0.lt).alloc _, ?_, by simp; omega, (c6.below hb1).below hba, c7, ?_⟩
    · refine (ho1.trans ⟨hb1.os, hb1.tape, hb1.output, hb1.size, fun k hk _ => hb1.block k (by simp; omega)⟩).alloc (by omega) _
    · exact ⟨U, cu, D, cd, C, cc, _, _, _, rfl, rfl, rfl, callsB_none hn1 hn8, (hk.mono (by simp)).below hba (Nat.le_refl _)⟩
  have HG := Lib.hid hG
  clear hG hk hb1 H
  go_wp2_with fail
  refine (HG.out.r.pick 8 (by omega) (by omega)).mono ?_
  rintro e w2 ⟨k0, rfl, hp2, hr2, hg2⟩
  obtain ⟨p1, p2⟩ := picked_lit0 hp2 (by omega)
  have HG2 := Lib.hid (HG.out.picked hg2 hr2 hgl (by omega) (by omega))
  clear hp2 hr2 hg2 HG
  obtain ⟨k1, rfl⟩ := Int.eq_ofNat_of_zero_le p1
  generalize hg7 : w1.heap.size = g7 at *
  clear hg7
  go_wp2
  go_loopw [8] (fun s8 wr => ∃ (k i : Nat) (x y z : Value), s8 = .int .i64 k ∧ i + k ≤ 7 ∧ CallG w (w.heap.size + 1) g g7 (Q + 1 + 15 * i) n x y z 0 wr) (fun s8 _ => (intOf s8).toNat)
  case atStart => exact ⟨k1, 0, _, _, _, rfl, by omega, ⟨HG2.out.r, HG2.out.o, HG2.out.h, HG2.out.c6, HG2.out.c7, HG2.out.own⟩⟩
  case round =>
    obtain ⟨k, i, x, y, z, rfl, hik, hG⟩ := hrel
    clear HG2
    have HG := Lib.hid hG
    clear hG
    by_cases hk : 0 < k
    · go_wp2_with fail
      rename_i hK
      refine wp_region_any (by kernel_rfl) ?_
      refine wpAny_typed 14 (fun i => (#[20, 21, 22, 23, 24, 25, 26, 27, 19, 28, 29, 9, 9, 10] : Array Nat).getD i 0) (fun i => i == 12) (CallR (w.heap.size + 1) g g7 n x y z) (CallG w (w.heap.size + 1) g g7 (Q + 1 + 15 * i) n x y z) rfl 66 rfl (by kernel_rfl) ⟨HG.out.r.drewN 1, HG.out.o.drewN 1, HG.out.h, HG.out.c6, HG.out.c7, HG.out.own.stay ⟨Nat.le_refl _, fun _ _ _ _ _ => rfl⟩⟩ ?_ ?_
      · intro a W U hR hG
        obtain ⟨f, hf, ha⟩ := U.form [false, false, false, false, false, false, false, false, false, true, true, false, false, false, false, false, false, false, false, true, true, true, true, true, true, true, true, true, true, true, false, false, false, false, false, false, false, false, false, false, false, false, false, false, false, false, false, false, false, false, false, false, false, false, false, false, false, false, false, false, false, false, false, false, false, false] rfl (by decide)
        obtain ⟨b9, x', y', z', h9, hlt9, hb9, ho9⟩ := hR 12 (by omega)
        obtain ⟨ok, h10⟩ := hR 13 (by omega)
        have e9 : a.tmps.getD 9 undef = f 9 := hf 12 (by omega)
        have e10 : a.tmps.getD 10 undef = f 10 := hf 13 (by omega)
        have h9' : f 9 = .pointer (some ⟨b9, 0, none⟩) := e9.symm.trans h9
        have h10' : f 10 = .bool ok := e10.symm.trans h10
        simp only [letters, cond_true, cond_false, Nat.reduceAdd, h9', h10'] at ha
        obtain ⟨kk, hkk, hg⟩ := hG
        obtain ⟨U', cu', D', cd', C', cc', up', dn', car', rfl, rfl, rfl, hv', ho'⟩ := ho9
        have HG1 := Lib.hid hg
        have ho9 : OwnCs W (w.heap.size + 1) n (.slice U' n cu') (.slice D' n cd') (.slice C' n cc') := ⟨U', cu', D', cd', C', cc', up', dn', car', rfl, rfl, rfl, hv', ho'⟩
        have HB9 := Lib.hid hb9
        have HO9 := Lib.hid ho9
        clear hR hf U h9 e9 e10 h9' h10' h10 hg hb9 ho9 HG ho' hv'
        subst ha
        refine hK _ _ ?_
        have c9 := HB9.out.bx.cells
        have c7 := HG1.out.c7.bx.cells
        have f7 := HG1.out.c7.bx.free
        cases ok
        · go_wp2
          go_roundw
          case rel => exact ⟨k - 1, i + 1, x, y, z, by go_num, by omega, ⟨HG1.out.r.mono (by omega), HG1.out.o, HG1.out.h, HG1.out.c6, HG1.out.c7, HG1.out.own⟩⟩
          case measure => simp [intOf]; omega
        · go_wp2
          go_roundw
          case rel => exact ⟨k - 1, i + 1, _, _, _, by go_num, by omega, (HG1.out.swap hgl (by omega) HO9.out).weak (by omega)⟩
          case measure => simp [intOf]; omega
      · intro i' o ho a W k' U hG hk' hd
        have hlt : i' < 14 := (Array.getElem?_eq_some_iff.1 ho).1
        have h7 : w.heap.size < g7 := by omega
        rcases (by omega : i' = 0 ∨ i' = 1 ∨ i' = 2 ∨ i' = 3 ∨ i' = 4 ∨ i' = 5 ∨ i' = 6 ∨ i' = 7 ∨ i' = 8 ∨ i' = 9 ∨ i' = 10 ∨ i' = 11 ∨ i' = 12 ∨ i' = 13) with rfl | rfl | rfl | rfl | rfl | rfl | rfl | rfl | rfl | rfl | rfl | rfl | rfl | rfl
        all_goals (refine wpOp_of ho (by cases ho; rfl) ?_; cases ho)
        · have h7 := U.other 7 (by decide)
          have t7 : a.tmps[7]?.getD undef = .pointer (some ⟨g7, 0, none⟩) := by simpa using h7
          obtain ⟨U', cu', D', cd', C', cc', up', dn', car', rfl, rfl, rfl, hv', ho'⟩ := hG.own
          have c := hG.c7.bx.cells
          unfold Oper.wp
          simp [go_sem, Act.eval, t7, c]
          exact ⟨hG.step, fun j v _ h => h, .inl ⟨rfl, _, rfl, rfl⟩⟩
        · have h0 := U.other 0 (by decide)
          have t0 : a.tmps[0]?.getD undef = .pointer (some ⟨g, 0, none⟩) := by simpa using h0
          unfold Oper.wp
          simp [go_sem, Act.eval, t0]
          exact ⟨hG.step, fun j v _ h => h, .inl ⟨rfl, _, rfl, rfl⟩⟩
        · have h1 := hd ⟨1, .data⟩ (by simp) rfl
          have t21 : a.tmps[21]?.getD undef = .pointer (some ⟨g, 0, none⟩) := by simpa [CallR] using h1
          unfold Oper.wp
          simp [go_sem, Act.eval, t21]
          refine (hG.r.pick 3 (by omega) (by omega)).mono ?_
          rintro e w' ⟨xx, rfl, hp, hr, hg⟩
          exact ⟨hG.picked hg hr hgl (by omega) (by omega), fun j v _ h => CallR.keep (Stay.picked hg (by omega)) (StayC.picked hg (by omega)) j v h, .inl ⟨rfl, _, rfl, ⟨_, rfl⟩⟩⟩
        · have h0 := U.other 0 (by decide)
          have t0 : a.tmps[0]?.getD undef = .pointer (some ⟨g, 0, none⟩) := by simpa using h0
          unfold Oper.wp
          simp [go_sem, Act.eval, t0]
          exact ⟨hG.step, fun j v _ h => h, .inl ⟨rfl, _, rfl, rfl⟩⟩
        · have h1 := U.other 1 (by decide)
          have t1 : a.tmps[1]?.getD undef = .int .i64 n := by simpa using h1
          unfold Oper.wp
          simp [go_sem, Act.eval, t1]
          exact ⟨hG.step, fun j v _ h => h, .inl ⟨rfl, _, rfl, rfl⟩⟩
        · have h4 := hd ⟨4, .data⟩ (by simp) rfl
          have t24 : a.tmps[24]?.getD undef = .int .i64 n := by simpa [CallR] using h4
          have hmx : ¬ (n : Int) < 1 := by omega
          unfold Oper.wp
          simp [go_sem, Act.eval, t24, hmx]
          exact ⟨hG.step, fun j v _ h => h, .inl ⟨rfl, _, rfl, rfl⟩⟩
        · have h3 := hd ⟨3, .data⟩ (by simp) rfl
          have t23 : a.tmps[23]?.getD undef = .pointer (some ⟨g, 0, none⟩) := by simpa [CallR] using h3
          have h5 := hd ⟨5, .data⟩ (by simp) rfl
          have t25 : a.tmps[25]?.getD undef = .int .i64 n := by simpa [CallR] using h5
          unfold Oper.wp
          simp [go_sem, Act.eval, t23, t25]
          refine (hG.r.pick (n : Int) (by omega) (by omega)).mono ?_
          rintro e w' ⟨xx, rfl, hp, hr, hg⟩
          exact ⟨hG.picked hg hr hgl (by omega) (by omega), fun j v _ h => CallR.keep (Stay.picked hg (by omega)) (StayC.picked hg (by omega)) j v h, .inl ⟨rfl, _, rfl, ⟨_, rfl⟩⟩⟩
        · have h0 := hd ⟨0, .data⟩ (by simp) rfl
          obtain ⟨c2, h2⟩ := hd ⟨2, .data⟩ (by simp) rfl
          obtain ⟨c6, h6⟩ := hd ⟨6, .data⟩ (by simp) rfl
          have t20 : a.tmps[20]?.getD undef = .agg #[x, y, z] := by simpa [CallR] using h0
          have t22 : a.tmps[22]?.getD undef = .int .i64 c2 := by simpa using h2
          have t26 : a.tmps[26]?.getD undef = .int .i64 c6 := by simpa using h6
          obtain ⟨U', cu', D', cd', C', cc', up', dn', car', rfl, rfl, rfl, hv', ho'⟩ := hG.own
          unfold Oper.wp
          simp [go_sem, Act.eval, t20, t22, t26]
          refine (spec_CallSet c2 c6 true hv' (Nat.le_refl _) ho'.u.bools ho'.d.bools ho'.c.bools).mono ?_
          unfold SetPost
          rintro e w' ⟨U2, cu2, D2, cd2, C2, cc2, rfl, hk2, hb2⟩
          exact ⟨hG.below hb2, fun j v _ h => CallR.keep (Stay.below hb2) (StayC.below hb2) j v h, .inl ⟨rfl, _, rfl, ⟨_, _, _, _, rfl, ⟨U2, cu2, D2, cd2, C2, cc2, _, _, _, rfl, rfl, rfl, ask_calls hv' c2 c6 true, hk2.mono hG.h⟩⟩⟩⟩
        · obtain ⟨x', y', z', ok, h7, ho7⟩ := hd ⟨7, .data⟩ (by simp) rfl
          have t27 : a.tmps[27]?.getD undef = .tuple #[.agg #[x', y', z'], .bool ok] := by simpa using h7
          unfold Oper.wp
          simp [go_sem, Act.eval, t27]
          exact ⟨hG.step, fun j v _ h => h, .inl ⟨rfl, _, rfl, ⟨x', y', z', ok, rfl, ho7⟩⟩⟩
        · obtain ⟨x', y', z', ok, h8, ho8⟩ := hd ⟨8, .data⟩ (by simp) rfl
          have t19 : a.tmps[19]?.getD undef = .tuple #[.agg #[x', y', z'], .bool ok] := by simpa using h8
          unfold Oper.wp
          simp [go_sem, Act.eval, t19]
          exact ⟨hG.step, fun j v _ h => h, .inl ⟨rfl, _, rfl, ⟨x', y', z', rfl, ho8⟩⟩⟩
        · obtain ⟨x', y', z', ok, h8, ho8⟩ := hd ⟨8, .data⟩ (by simp) rfl
          have t19 : a.tmps[19]?.getD undef = .tuple #[.agg #[x', y', z'], .bool ok] := by simpa using h8
          unfold Oper.wp
          simp [go_sem, Act.eval, t19]
          exact ⟨hG.step, fun j v _ h => h, .inl ⟨rfl, _, rfl, ⟨ok, rfl⟩⟩⟩
        · have hba := (Below.refl W.heap.size W).alloc (Nat.le_refl _) (.cells #[.slice none 0 0, .slice none 0 0, .slice none 0 0] 32)
          unfold Oper.wp
          simp [go_sem, Act.eval]
          refine ⟨hG.below hba, fun j v _ h => CallR.keep (Stay.below hba) (StayC.below hba) j v h, .inl ⟨rfl, _, rfl, ⟨W.heap.size, .slice none 0 0, .slice none 0 0, .slice none 0 0, rfl, hG.c7.bx.lt, ?_⟩⟩⟩
          show (W.heap.push _)[W.heap.size]? = _
          simp
        · obtain ⟨b, x0, y0, z0, h11, hltb, hb⟩ := hd ⟨11, .data⟩ (by simp) rfl
          obtain ⟨x', y', z', h9, ho9⟩ := hd ⟨9, .data⟩ (by simp) rfl
          have t9 : a.tmps[9]?.getD undef = .pointer (some ⟨b, 0, none⟩) := by simpa using h11
          have t28 : a.tmps[28]?.getD undef = .agg #[x', y', z'] := by simpa using h9
          obtain ⟨U', cu', D', cd', C', cc', up', dn', car', rfl, rfl, rfl, hv', ho'⟩ := ho9
          have ho9 : OwnCs W (w.heap.size + 1) n (.slice U' n cu') (.slice D' n cd') (.slice C' n cc') := ⟨U', cu', D', cd', C', cc', up', dn', car', rfl, rfl, rfl, hv', ho'⟩
          have c := hb.bx.cells
          have fz := hb.bx.free
          unfold Oper.wp
          simp [go_sem, Act.eval, t9, t28, c, fz]
          exact ⟨hG.stored hgl h7 hb hltb _ _ _, fun j v hne h => CallR.put hb _ _ _ j v hne h, .inr ⟨rfl, ⟨b, _, _, _, h11, hltb, hb.put _ _ _, ho9.stay (Stay.put hb _ _ _)⟩⟩⟩
        · obtain ⟨ok, h10⟩ := hd ⟨10, .data⟩ (by simp) rfl
          have t29 : a.tmps[29]?.getD undef = .bool ok := by simpa using h10
          unfold Oper.wp
          simp [go_sem, Act.eval, t29]
          exact ⟨hG.step, fun j v _ h => h, .inl ⟨rfl, _, rfl, ⟨ok, rfl⟩⟩⟩
    · obtain rfl : k = 0 := by omega
      go_wp2_with fail
      refine (HG.out.r.odd0 (by omega)).mono ?_
      rintro e w3 ⟨rfl, hr3, hg3⟩
      obtain ⟨U', cu', D', cd', C', cc', up', dn', car', rfl, rfl, rfl, hv', ho'⟩ := HG.out.own
      have HK3 := Lib.hid (ho'.kept hg3 (.inr (by intro b e; cases e; left; omega)))
      have HX6 := Lib.hid (HG.out.c6.kept hg3 (by omega))
      have HX7 := Lib.hid (HG.out.c7.kept hg3 (by omega))
      have HV := Lib.hid hv'
      have HR3 := Lib.hid hr3
      have HO3 := Lib.hid (HG.out.o.picked hg3 (Nat.le_of_lt HG.out.h))
      clear hv' ho' hr3 hg3 HG
      have c6 := HX6.out.bx.cells
      have f6 := HX6.out.bx.free
      have c7 := HX7.out.bx.cells
      go_wp2
      refine bodyPost_ret (v := .agg #[.slice U' n cu', .slice D' n cd', .slice C' n cc']) (by simp [results, Tryz.results81, go_sem, c6, c7]) rfl ⟨U', cu', D', cd', C', cc', up', dn', car', rfl, HV.out, ?_, ?_, ?_⟩
      · refine OwnC.mono (base := w.heap.size + 1) ?_ (by omega)
        repeat (refine own_set (by simp <;> omega) ?_)
        exact HK3.out
      · have hbl := (((Below.refl w.heap.size w3).setCell (p := ⟨w.heap.size, 0, none⟩) (by simp) (.slice U' n cu')).setCell (p := ⟨w.heap.size, 1, none⟩) (by simp) (.slice D' n cd')).setCell (p := ⟨w.heap.size, 2, none⟩) (by simp) (.slice C' n cc')
        exact (HR3.out.mono (by omega)).below hbl hgl
      · have hbl := (((Below.refl w.heap.size w3).setCell (p := ⟨w.heap.size, 0, none⟩) (by simp) (.slice U' n cu')).setCell (p := ⟨w.heap.size, 1, none⟩) (by simp) (.slice D' n cd')).setCell (p := ⟨w.heap.size, 2, none⟩) (by simp) (.slice C' n cc')
        exact (HO3.out.trans ⟨hbl.os, hbl.tape, hbl.output, hbl.size, fun k hk _ => hbl.block k hk⟩).grow
end Go.Proofs.YthkpikkjgggimaaGreatDoor
