/-
  The contract of the drawing of a deed. No claim stands here.
-/
import Derived.Test.YtnbjibkbjdbadaaBG
import Derived.Test.YtnbjibkbjdbadaaTyped
namespace Go.Proofs.Ytnbjibkbjdbadaa
open Go.RowKit
set_option linter.unusedVariables false
set_option linter.unusedSimpArgs false

/-- Blocks from base on that are there stay as they are, but for block s. -/
def Grew (base s : Nat) (W W' : World) : Prop := W.heap.size ≤ W'.heap.size ∧ ∀ b, base ≤ b → b ≠ s → b < W.heap.size → W'.heap[b]? = W.heap[b]?
theorem Grew.refl (base s : Nat) (W : World) : Grew base s W W := ⟨Nat.le_refl _, fun _ _ _ _ => rfl⟩
theorem Grew.alloc (base s : Nat) (W : World) (o : Obj) : Grew base s W (W.alloc o) := by
  refine ⟨by simp, fun b _ _ hb => ?_⟩
  show (W.heap.push o)[b]? = _
  rw [Array.getElem?_push, if_neg (by omega)]
theorem Grew.picked {base s g : Nat} {W W' : World} (hg : W.grownBy W' (some g)) (h : g < base) : Grew base s W W' :=
  ⟨hg.size, fun b hb _ hlt => hg.block b hlt (by intro e; cases e; omega)⟩
theorem Grew.set {base s o : Nat} {W W' : World} (h : Grew base s W W') (v : Value) : Grew base s W (W'.setCell ⟨s, o, none⟩ v) :=
  ⟨by simpa using h.1, fun b hb hne hlt => (Below.heap_setCell _ _ _ _ (by intro e; exact hne e)).trans (h.2 b hb hne hlt)⟩
/-- A block of eight numbers. -/
def Eight (base s : Nat) (bl : Nat) (W : World) : Prop := base ≤ bl ∧ bl ≠ s ∧ bl < W.heap.size ∧ ∀ z : Nat, z < 8 → ∃ c : Int, W.cell? ⟨bl, z, none⟩ = some (.int .i64 c)
theorem Eight.grew {base s bl : Nat} {W W' : World} (h : Eight base s bl W) (g : Grew base s W W') : Eight base s bl W' := by
  obtain ⟨h1, h2, h3, h4⟩ := h
  refine ⟨h1, h2, Nat.lt_of_lt_of_le h3 g.1, fun z hz => ?_⟩
  obtain ⟨c, hc⟩ := h4 z hz
  exact ⟨c, (World.cell?_of_block (g.2 bl h1 h2 h3)).trans hc⟩
theorem Only.drewN {base g : Nat} {a w : World} (h : Only base g a w) (k : Nat) : Only base g a (w.drewN k) := ⟨h.os, h.tape, h.output, h.size, h.block⟩
def AnInt (v : Value) : Prop := ∃ c : Int, v = .int .i64 c
/-- What the operations of l20BuildDeed's region leave. -/
def DeedR (base s g n : Nat) (s0 : Value) : Nat → Value → World → Prop
  | 0, v, W => ∃ bl, v = .slice (some ⟨bl, 0, none⟩) 8 8 ∧ Eight base s bl W
  | 1, v, _ => v = .pointer (some ⟨g, 0, none⟩)
  | 2, v, _ => ∃ z : Nat, v = .int .i64 z ∧ z < 8
  | 3, v, W => ∃ bl z, v = .pointer (some ⟨bl, z, none⟩) ∧ z < 8 ∧ Eight base s bl W
  | 5, v, _ => v = .pointer (some ⟨g, 0, none⟩)
  | 10, v, _ => v = .pointer (some ⟨g, 0, none⟩)
  | 12, v, _ => v = .pointer (some ⟨g, 0, none⟩)
  | 13, v, _ => v = .pointer (some ⟨s - 1, 0, none⟩)
  | 14, v, _ => v = s0
  | 15, v, _ => v = .int .i64 n
  | 16, v, _ => v = .int .i64 ((n : Int) + 1)
  | 18, v, _ => v = .pointer (some ⟨g, 0, none⟩)
  | 22, v, _ => ∃ x y z : Int, v = .agg #[.int .i64 x, .int .i64 y, .int .i64 z]
  | 23, _, _ => True
  | _, v, _ => AnInt v
theorem DeedR.grew {base s g n : Nat} {s0 : Value} {W W' : World} (h : Grew base s W W') : ∀ j v, DeedR base s g n s0 j v W → DeedR base s g n s0 j v W' := by
  intro j v hj
  unfold DeedR at hj ⊢
  split at hj
  · obtain ⟨bl, e, he⟩ := hj; exact ⟨bl, e, he.grew h⟩
  all_goals first
    | exact hj
    | (obtain ⟨bl, z, e, hz, he⟩ := hj; exact ⟨bl, z, e, hz, he.grew h⟩)
theorem eight_new {base s : Nat} {W : World} {a0 a1 a2 a3 a4 a5 a6 a7 : Int} (hb : base ≤ W.heap.size) (hs : s < base) :
    ∃ bl, Value.slice (some ⟨W.heap.size, 0, none⟩) 8 8 = .slice (some ⟨bl, 0, none⟩) 8 8 ∧ Eight base s bl (W.alloc (.cells #[.int .i64 a0, .int .i64 a1, .int .i64 a2, .int .i64 a3, .int .i64 a4, .int .i64 a5, .int .i64 a6, .int .i64 a7] 3)) := by
  refine ⟨W.heap.size, rfl, hb, by omega, by simp, fun z hz => ?_⟩
  have hc := (Bx.new W #[.int .i64 a0, .int .i64 a1, .int .i64 a2, .int .i64 a3, .int .i64 a4, .int .i64 a5, .int .i64 a6, .int .i64 a7] 3).cells z
  rw [hc]
  rcases (by omega : z = 0 ∨ z = 1 ∨ z = 2 ∨ z = 3 ∨ z = 4 ∨ z = 5 ∨ z = 6 ∨ z = 7) with rfl | rfl | rfl | rfl | rfl | rfl | rfl | rfl <;> exact ⟨_, rfl⟩
theorem picked_nat8 {x : Int} (h : Picked 8 x) : ∃ z : Nat, Value.int .i64 x = .int .i64 z ∧ z < 8 := by
  obtain ⟨h0, h1, _⟩ := h
  have := h1 (by omega)
  exact ⟨x.toNat, by rw [Int.toNat_of_nonneg h0], by omega⟩
/-- What holds of the world in l20BuildDeed's region. -/
structure DeedG (w : World) (g Q : Nat) (xs : Array Value) (k : Nat) (W : World) : Prop where
  r : Reads W g (Q + k)
  o : Only w.heap.size g w W
  x : Bx W w.heap.size xs
  y : ∃ x y z : Int, Bx W (w.heap.size + 1) #[.int .i64 x, .int .i64 y, .int .i64 z]
theorem Bx.kept {w w' : World} {g b : Nat} {xs : Array Value} (h : Bx w b xs) (hg : w.grownBy w' (some g)) (hne : b ≠ g) : Bx w' b xs := by
  have hl := h.lt
  obtain ⟨T, h⟩ := h
  exact ⟨T, (hg.block b hl (by intro e; cases e; exact hne rfl)).trans h⟩
section
variable {w W W' : World} {g Q k : Nat} {xs : Array Value}
theorem DeedG.step (h : DeedG w g Q xs k W) : DeedG w g Q xs (k + 1) W := ⟨h.r.mono (by omega), h.o, h.x, h.y⟩
theorem DeedG.size (h : DeedG w g Q xs k W) : w.heap.size + 2 ≤ W.heap.size := by
  obtain ⟨_, _, _, h⟩ := h.y
  exact h.lt
theorem DeedG.alloc (h : DeedG w g Q xs k W) (o : Obj) : DeedG w g Q xs (k + 1) (W.alloc o) := by
  obtain ⟨x, y, z, hy⟩ := h.y
  exact ⟨(h.r.mono (by omega)).alloc o, h.o.alloc (by have := h.size; omega) o, h.x.alloc o, ⟨x, y, z, hy.alloc o⟩⟩
theorem DeedG.picked (h : DeedG w g Q xs k W) (hg : W.grownBy W' (some g)) (hr : Reads W' g (Q + k + 1)) (hgl : g < w.heap.size) : DeedG w g Q xs (k + 1) W' := by
  obtain ⟨x, y, z, hy⟩ := h.y
  exact ⟨hr, h.o.picked hg (by have := h.size; omega), h.x.kept hg (by omega), ⟨x, y, z, hy.kept hg (by omega)⟩⟩
theorem DeedG.stored (h : DeedG w g Q xs k W) (hgl : g < w.heap.size) (x y z : Int) : DeedG w g Q xs (k + 1) (((W.setCell ⟨w.heap.size + 1, 0, none⟩ (.int .i64 x)).setCell ⟨w.heap.size + 1, 1, none⟩ (.int .i64 y)).setCell ⟨w.heap.size + 1, 2, none⟩ (.int .i64 z)) := by
  obtain ⟨x', y', z', hy⟩ := h.y
  have hb : Below (w.heap.size + 1) W (((W.setCell ⟨w.heap.size + 1, 0, none⟩ (.int .i64 x)).setCell ⟨w.heap.size + 1, 1, none⟩ (.int .i64 y)).setCell ⟨w.heap.size + 1, 2, none⟩ (.int .i64 z)) :=
    (((Below.refl _ W).setCell (by simp) _).setCell (by simp) _).setCell (by simp) _
  refine ⟨(h.r.mono (by omega)).below hb (by omega), h.o.trans ⟨hb.os, hb.tape, hb.output, hb.size, fun k hk _ => hb.block k (by omega)⟩, h.x.below hb (by omega), ⟨x, y, z, ?_⟩⟩
  have := (((hy.set 0 (.int .i64 x)).set 1 (.int .i64 y)).set 2 (.int .i64 z))
  simpa using this
end

set_option maxRecDepth 4000 in
set_option maxHeartbeats 3200000 in
theorem l20BuildDeed_any {w : World} {g Q : Nat} {v : Bv} {b : Bld} (hQ : Q + 25 ≤ 1000000) (hn : b.n ≤ 100000000) (hr : Reads w g Q) :
    Calls Try.prog 76 #[.pointer (some ⟨g, 0, none⟩), bval v b] w fun e w' =>
      ∃ x y z : Int, e = .returned (.agg #[.int .i64 x, .int .i64 y, .int .i64 z]) ∧ Reads w' g (Q + 24) ∧ w.grownBy w' (some g) := by
  have hgl := hr.lt
  have hG0 : DeedG w g Q (bcells v b) 0 ((w.alloc (.cells (bcells v b) 36)).alloc (.cells #[.int .i64 0, .int .i64 0, .int .i64 0] 84)).drew := by
    have y := Bx.new (w.alloc (.cells (bcells v b) 36)) #[.int .i64 0, .int .i64 0, .int .i64 0] 84
    rw [show (w.alloc (.cells (bcells v b) 36)).heap.size = w.heap.size + 1 by simp] at y
    exact ⟨((hr.alloc _).alloc _).drewN 1, (((Only.refl w.heap.size g w).alloc (Nat.le_refl _) _).alloc (by simp) _).drewN 1, (Bx.new w (bcells v b) _).alloc _, ⟨0, 0, 0, y⟩⟩
  have HG0 := Lib.hid hG0
  clear hr hG0
  unfold bval bcells
  go_enter Try.func76, Try.ntmps76
  go_wp2_with fail
  rename_i Q' K hK
  refine wp_region_any (by kernel_rfl) ?_
  refine wpAny_typed 24 (fun i => i + 5) (fun i => i == 23) (DeedR (w.heap.size + 2) (w.heap.size + 1) g b.n (.slice v.A b.n v.c)) (DeedG w g Q (bcells v b)) rfl 28 rfl (by kernel_rfl) HG0.out ?_ ?_
  · intro a W U hR hG
    have h4 := U.other 4 (by intro i _; omega)
    have t4 : a.tmps[4]?.getD undef = .pointer (some ⟨w.heap.size + 1, 0, none⟩) := by simpa using h4
    obtain ⟨k, hk, hg⟩ := hG
    obtain ⟨x, y, z, hy⟩ := hg.y
    have c1 := hy.cells
    have hdf : a.defers = [] := congrArg Act.defers U.rest
    have HG := Lib.hid hg
    clear hg hy hR U h4
    refine hK _ _ ?_
    go_wp2
    refine bodyPost_ret (v := .agg #[.int .i64 x, .int .i64 y, .int .i64 z]) (by simp [results, Try.results76, go_sem, Act.eval, t4, c1]) (by first | rfl | exact hdf) ⟨x, y, z, rfl, HG.out.r.mono (by omega), HG.out.o.grow⟩
  · intro i o ho a W k U hG hk hd
    have hlt : i < 24 := (Array.getElem?_eq_some_iff.1 ho).1
    rcases (by omega : i = 0 ∨ i = 1 ∨ i = 2 ∨ i = 3 ∨ i = 4 ∨ i = 5 ∨ i = 6 ∨ i = 7 ∨ i = 8 ∨ i = 9 ∨ i = 10 ∨ i = 11 ∨ i = 12 ∨ i = 13 ∨ i = 14 ∨ i = 15 ∨ i = 16 ∨ i = 17 ∨ i = 18 ∨ i = 19 ∨ i = 20 ∨ i = 21 ∨ i = 22 ∨ i = 23) with rfl | rfl | rfl | rfl | rfl | rfl | rfl | rfl | rfl | rfl | rfl | rfl | rfl | rfl | rfl | rfl | rfl | rfl | rfl | rfl | rfl | rfl | rfl | rfl
    all_goals (refine wpOp_of ho (by cases ho; rfl) ?_; cases ho)
    · unfold Oper.wp
      simp [go_sem, Act.eval]
      refine ⟨hG.alloc _, fun j v _ h => h.grew (Grew.alloc _ _ _ _), .inl ⟨rfl, _, rfl, ?_⟩⟩
      exact eight_new hG.size (by omega)
    · have h0 := U.other 0 (by intro i _; omega)
      have t0 : a.tmps[0]?.getD undef = .pointer (some ⟨g, 0, none⟩) := by simpa using h0
      unfold Oper.wp
      simp [go_sem, Act.eval, t0]
      exact ⟨hG.step, fun j v _ h => h, .inl ⟨rfl, _, rfl, rfl⟩⟩
    · have h1 := hd ⟨1, .data⟩ (by simp) rfl
      have t6 : a.tmps[6]?.getD undef = .pointer (some ⟨g, 0, none⟩) := by simpa [DeedR] using h1
      unfold Oper.wp
      simp [go_sem, Act.eval, t6]
      refine (hG.r.pick 8 (by omega) (by omega)).mono ?_
      rintro e w' ⟨x, rfl, hp, hr, hg⟩
      refine ⟨hG.picked hg hr hgl, fun j v _ h => h.grew (Grew.picked hg (by omega)), .inl ⟨rfl, _, rfl, ?_⟩⟩
      exact picked_nat8 hp
    · obtain ⟨bl, h0, he⟩ := hd ⟨0, .data⟩ (by simp) rfl
      obtain ⟨z, h2, hz⟩ := hd ⟨2, .data⟩ (by simp) rfl
      have t5 : a.tmps[5]?.getD undef = .slice (some ⟨bl, 0, none⟩) 8 8 := by simpa using h0
      have t7 : a.tmps[7]?.getD undef = .int .i64 z := by simpa using h2
      have hz' : (z : Int) < 8 := by omega
      unfold Oper.wp
      simp [go_sem, Act.eval, t5, t7, hz']
      exact ⟨hG.step, fun j v _ h => h, .inl ⟨rfl, _, rfl, ⟨bl, z, rfl, hz, he⟩⟩⟩
    · obtain ⟨bl, z, h3, hz, he⟩ := hd ⟨3, .data⟩ (by simp) rfl
      have t8 : a.tmps[8]?.getD undef = .pointer (some ⟨bl, z, none⟩) := by simpa using h3
      obtain ⟨c, hc⟩ := he.2.2.2 z hz
      unfold Oper.wp
      simp [go_sem, Act.eval, t8, hc]
      exact ⟨hG.step, fun j v _ h => h, .inl ⟨rfl, _, rfl, ⟨c, rfl⟩⟩⟩
    · have h0 := U.other 0 (by intro i _; omega)
      have t0 : a.tmps[0]?.getD undef = .pointer (some ⟨g, 0, none⟩) := by simpa using h0
      unfold Oper.wp
      simp [go_sem, Act.eval, t0]
      exact ⟨hG.step, fun j v _ h => h, .inl ⟨rfl, _, rfl, rfl⟩⟩
    · have h5 := hd ⟨5, .data⟩ (by simp) rfl
      have t10 : a.tmps[10]?.getD undef = .pointer (some ⟨g, 0, none⟩) := by simpa [DeedR] using h5
      unfold Oper.wp
      simp [go_sem, Act.eval, t10]
      refine (hG.r.pick 60 (by omega) (by omega)).mono ?_
      rintro e w' ⟨x, rfl, hp, hr, hg⟩
      refine ⟨hG.picked hg hr hgl, fun j v _ h => h.grew (Grew.picked hg (by omega)), .inl ⟨rfl, _, rfl, ?_⟩⟩
      exact ⟨_, rfl⟩
    · obtain ⟨c11, h11⟩ := hd ⟨6, .data⟩ (by simp) rfl
      have t11 : a.tmps[11]?.getD undef = .int .i64 c11 := by simpa using h11
      unfold Oper.wp
      simp [go_sem, Act.eval, t11]
      exact ⟨hG.step, fun j v _ h => h, .inl ⟨rfl, _, rfl, ⟨_, rfl⟩⟩⟩
    · obtain ⟨c12, h12⟩ := hd ⟨7, .data⟩ (by simp) rfl
      have t12 : a.tmps[12]?.getD undef = .int .i64 c12 := by simpa using h12
      unfold Oper.wp
      simp [go_sem, Act.eval, t12]
      exact ⟨hG.step, fun j v _ h => h, .inl ⟨rfl, _, rfl, ⟨_, rfl⟩⟩⟩
    · obtain ⟨c9, h9⟩ := hd ⟨4, .data⟩ (by simp) rfl
      have t9 : a.tmps[9]?.getD undef = .int .i64 c9 := by simpa using h9
      obtain ⟨c13, h13⟩ := hd ⟨8, .data⟩ (by simp) rfl
      have t13 : a.tmps[13]?.getD undef = .int .i64 c13 := by simpa using h13
      unfold Oper.wp
      simp [go_sem, Act.eval, t9, t13]
      exact ⟨hG.step, fun j v _ h => h, .inl ⟨rfl, _, rfl, ⟨_, rfl⟩⟩⟩
    · have h0 := U.other 0 (by intro i _; omega)
      have t0 : a.tmps[0]?.getD undef = .pointer (some ⟨g, 0, none⟩) := by simpa using h0
      unfold Oper.wp
      simp [go_sem, Act.eval, t0]
      exact ⟨hG.step, fun j v _ h => h, .inl ⟨rfl, _, rfl, rfl⟩⟩
    · have h10 := hd ⟨10, .data⟩ (by simp) rfl
      have t15 : a.tmps[15]?.getD undef = .pointer (some ⟨g, 0, none⟩) := by simpa [DeedR] using h10
      unfold Oper.wp
      simp [go_sem, Act.eval, t15]
      refine (hG.r.pick 3 (by omega) (by omega)).mono ?_
      rintro e w' ⟨x, rfl, hp, hr, hg⟩
      refine ⟨hG.picked hg hr hgl, fun j v _ h => h.grew (Grew.picked hg (by omega)), .inl ⟨rfl, _, rfl, ?_⟩⟩
      exact ⟨_, rfl⟩
    · have h0 := U.other 0 (by intro i _; omega)
      have t0 : a.tmps[0]?.getD undef = .pointer (some ⟨g, 0, none⟩) := by simpa using h0
      unfold Oper.wp
      simp [go_sem, Act.eval, t0]
      exact ⟨hG.step, fun j v _ h => h, .inl ⟨rfl, _, rfl, rfl⟩⟩
    · have h3 := U.other 3 (by intro i _; omega)
      have t3 : a.tmps[3]?.getD undef = .pointer (some ⟨w.heap.size, 0, none⟩) := by simpa using h3
      unfold Oper.wp
      simp [go_sem, Act.eval, t3]
      exact ⟨hG.step, fun j v _ h => h, .inl ⟨rfl, _, rfl, rfl⟩⟩
    · have h13 := hd ⟨13, .data⟩ (by simp) rfl
      have t18 : a.tmps[18]?.getD undef = .pointer (some ⟨w.heap.size, 0, none⟩) := by simpa [DeedR] using h13
      have c := hG.x.cells
      unfold bcells at c
      unfold Oper.wp
      simp [go_sem, Act.eval, t18, c]
      exact ⟨hG.step, fun j v _ h => h, .inl ⟨rfl, _, rfl, rfl⟩⟩
    · have h14 := hd ⟨14, .data⟩ (by simp) rfl
      have t19 : a.tmps[19]?.getD undef = .slice v.A b.n v.c := by simpa [DeedR] using h14
      unfold Oper.wp
      simp [go_sem, Act.eval, t19]
      exact ⟨hG.step, fun j v _ h => h, .inl ⟨rfl, _, rfl, rfl⟩⟩
    · have h15 := hd ⟨15, .data⟩ (by simp) rfl
      have t20 : a.tmps[20]?.getD undef = .int .i64 b.n := by simpa [DeedR] using h15
      have hw : IntKind.i64.wrap ((b.n : Int) + 1) = (b.n : Int) + 1 := IntWalk.i64_in _ (by omega)
      unfold Oper.wp
      simp [go_sem, Act.eval, t20, hw]
      exact ⟨hG.step, fun j v _ h => h, .inl ⟨rfl, _, rfl, rfl⟩⟩
    · have h12 := hd ⟨12, .data⟩ (by simp) rfl
      have t17 : a.tmps[17]?.getD undef = .pointer (some ⟨g, 0, none⟩) := by simpa [DeedR] using h12
      have h16 := hd ⟨16, .data⟩ (by simp) rfl
      have t21 : a.tmps[21]?.getD undef = .int .i64 ((b.n : Int) + 1) := by simpa [DeedR] using h16
      unfold Oper.wp
      simp [go_sem, Act.eval, t17, t21]
      refine (hG.r.pick ((b.n : Int) + 1) (by omega) (by omega)).mono ?_
      rintro e w' ⟨x, rfl, hp, hr, hg⟩
      refine ⟨hG.picked hg hr hgl, fun j v _ h => h.grew (Grew.picked hg (by omega)), .inl ⟨rfl, _, rfl, ?_⟩⟩
      exact ⟨_, rfl⟩
    · have h0 := U.other 0 (by intro i _; omega)
      have t0 : a.tmps[0]?.getD undef = .pointer (some ⟨g, 0, none⟩) := by simpa using h0
      unfold Oper.wp
      simp [go_sem, Act.eval, t0]
      exact ⟨hG.step, fun j v _ h => h, .inl ⟨rfl, _, rfl, rfl⟩⟩
    · have h18 := hd ⟨18, .data⟩ (by simp) rfl
      have t23 : a.tmps[23]?.getD undef = .pointer (some ⟨g, 0, none⟩) := by simpa [DeedR] using h18
      unfold Oper.wp
      simp [go_sem, Act.eval, t23]
      refine (hG.r.pick 40 (by omega) (by omega)).mono ?_
      rintro e w' ⟨x, rfl, hp, hr, hg⟩
      refine ⟨hG.picked hg hr hgl, fun j v _ h => h.grew (Grew.picked hg (by omega)), .inl ⟨rfl, _, rfl, ?_⟩⟩
      exact ⟨_, rfl⟩
    · obtain ⟨c24, h24⟩ := hd ⟨19, .data⟩ (by simp) rfl
      have t24 : a.tmps[24]?.getD undef = .int .i64 c24 := by simpa using h24
      unfold Oper.wp
      simp [go_sem, Act.eval, t24]
      exact ⟨hG.step, fun j v _ h => h, .inl ⟨rfl, _, rfl, ⟨_, rfl⟩⟩⟩
    · obtain ⟨c22, h22⟩ := hd ⟨17, .data⟩ (by simp) rfl
      have t22 : a.tmps[22]?.getD undef = .int .i64 c22 := by simpa using h22
      obtain ⟨c25, h25⟩ := hd ⟨20, .data⟩ (by simp) rfl
      have t25 : a.tmps[25]?.getD undef = .int .i64 c25 := by simpa using h25
      unfold Oper.wp
      simp [go_sem, Act.eval, t22, t25]
      exact ⟨hG.step, fun j v _ h => h, .inl ⟨rfl, _, rfl, ⟨_, rfl⟩⟩⟩
    · obtain ⟨x, h9⟩ := hd ⟨9, .data⟩ (by simp) rfl
      obtain ⟨y, h11⟩ := hd ⟨11, .data⟩ (by simp) rfl
      obtain ⟨z, h21⟩ := hd ⟨21, .data⟩ (by simp) rfl
      have t14 : a.tmps[14]?.getD undef = .int .i64 x := by simpa using h9
      have t16 : a.tmps[16]?.getD undef = .int .i64 y := by simpa using h11
      have t26 : a.tmps[26]?.getD undef = .int .i64 z := by simpa using h21
      unfold Oper.wp
      simp [go_sem, Act.eval, t14, t16, t26]
      exact ⟨hG.step, fun j v _ h => h, .inl ⟨rfl, _, rfl, ⟨x, y, z, rfl⟩⟩⟩
    · obtain ⟨x, y, z, h22⟩ := hd ⟨22, .data⟩ (by simp) rfl
      have t27 : a.tmps[27]?.getD undef = .agg #[.int .i64 x, .int .i64 y, .int .i64 z] := by simpa using h22
      have h4 := U.other 4 (by intro i _; omega)
      have t4 : a.tmps[4]?.getD undef = .pointer (some ⟨w.heap.size + 1, 0, none⟩) := by simpa using h4
      obtain ⟨x', y', z', hy⟩ := hG.y
      have c := hy.cells
      have f := hy.free
      unfold Oper.wp
      simp [go_sem, Act.eval, t27, t4, c, f]
      exact ⟨hG.stored hgl x y z, fun j v _ h => h.grew (((Grew.refl _ _ _).set _).set _ |>.set _), .inr ⟨rfl, trivial⟩⟩
end Go.Proofs.Ytnbjibkbjdbadaa
