/-
  Texts DrawF, DrawG, DrawH, DrawL in one. No claim stands here.
-/
import Derived.Test.YthkpikkjgggimaaGreatDoorBO
import Derived.Test.YthkpikkjgggimaaGreatDoorRun
import Derived.Test.YthkpikkjgggimaaGreatDoorBF
import Derived.Test.YthkpikkjgggimaaGreatDoorBT
import Derived.Test.YthkpikkjgggimaaGreatDoorBK
namespace Go.Proofs.YthkpikkjgggimaaGreatDoor
open Go.RowKit
set_option linter.unusedVariables false
set_option linter.unusedSimpArgs false

/-- Few floors. -/
def Bld.Upto (b : Bld) (m : Nat) : Prop := b.n ≤ m ∧ b.nu ≤ m ∧ b.nd ≤ m ∧ b.nc ≤ m
theorem Bld.Upto.small {b : Bld} {m : Nat} (h : b.Upto m) (hm : m ≤ 100) : b.Small := ⟨by have := h.1; omega, by have := h.2.1; omega, by have := h.2.2.1; omega, by have := h.2.2.2; omega⟩
theorem Bld.Upto.mono {b : Bld} {m m' : Nat} (h : b.Upto m) (hm : m ≤ m') : b.Upto m' := ⟨by have := h.1; omega, by have := h.2.1; omega, by have := h.2.2.1; omega, by have := h.2.2.2; omega⟩
theorem none_upto (m : Nat) : Bld.none.Upto m := ⟨by simp [Bld.none], by simp [Bld.none], by simp [Bld.none], by simp [Bld.none]⟩
theorem tick_upto {b : Bld} {m : Nat} (h : b.Upto m) (bl : Bool) : (b.tick bl).Upto m := by
  unfold Bld.tick
  split
  · exact h
  · split
    · split
      · exact h
      · exact h
    · unfold Bld.look; split
      · exact h
      · exact h
theorem deed_upto {b : Bld} {m : Nat} (h : b.Upto m) (x : Int × Int × Int) : (b.deed x).Upto m := by
  unfold Bld.deed Bld.ticked Bld.called
  split
  · split
    · exact tick_upto h _
    · exact none_upto m
  · split
    · split
      · exact tick_upto h _
      · exact none_upto m
    · split
      · split
        · exact h
        · exact none_upto m
      · exact h
theorem runN_upto {b : Bld} {m : Nat} (h : b.Upto m) (d : Nat → Int × Int × Int) : ∀ n, (b.runN d n).Upto m := by
  intro n
  induction n with
  | zero => exact h
  | succ n ih => exact deed_upto ih _
theorem ran_upto {b : Bld} {m : Nat} (h : b.Upto m) (d : Nat → Int × Int × Int) (n : Nat) : (b.ran d n).Upto m := by
  unfold Bld.ran
  split
  · exact runN_upto h d n
  · exact none_upto m

/-- Block b is a box of a building. -/
def BBox (W : World) (b : Nat) (xs : Array Value) : Prop := W.heap[b]? = some (.cells xs 36 (0, 0))
theorem BBox.bx {W : World} {b : Nat} {xs : Array Value} (h : BBox W b xs) : Bx W b xs := ⟨_, h⟩
theorem BBox.kept {W W' : World} {b g : Nat} {xs : Array Value} (h : BBox W b xs) (hg : W.grownBy W' (some g)) (hne : b ≠ g) : BBox W' b xs :=
  (hg.block b h.bx.lt (by intro e; cases e; exact hne rfl)).trans h
theorem BBox.below {W W' : World} {b : Nat} {xs : Array Value} (h : BBox W b xs) (hb : Below W.heap.size W W') : BBox W' b xs := (hb.block b h.bx.lt).trans h
theorem BBox.far {W : World} {b : Nat} {xs : Array Value} (h : BBox W b xs) (p : Addr) (v : Value) (hp : p.block ≠ b) : BBox (W.setCell p v) b xs :=
  (Below.heap_setCell _ _ _ _ (by intro e; exact hp e.symm)).trans h
theorem BBox.set {W : World} {b : Nat} {xs : Array Value} (h : BBox W b xs) (i : Nat) (v : Value) : BBox (W.setCell ⟨b, i, none⟩ v) b (xs.setIfInBounds i v) := by
  unfold BBox at h ⊢
  simp [World.setCell, Array.getElem?_modify, h]
theorem BBox.sets {W : World} {b : Nat} {xs : Array Value} (l : List (Addr × Value)) (h : BBox W b xs) (hl : ∀ q ∈ l, q.1.block ≠ b) : BBox (sets W l) b xs := by
  induction l generalizing W with
  | nil => exact h
  | cons q l ih => exact ih (h.far q.1 q.2 (hl q (by simp))) (fun x hx => hl x (by simp [hx]))
theorem BBox.put {W : World} {g : Nat} {v0 : Bv} {b0 : Bld} (h : BBox W g (bcells v0 b0)) (v : Bv) (b : Bld) : BBox (Go.Proofs.YthkpikkjgggimaaGreatDoor.sets W (putL g v b)) g (bcells v b) := by
  unfold bcells at h
  have h' := ((((((((((h.set 0 (.slice v.A b.n v.c)).set 1 (.int .i64 b.pos)).set 2 (.int .i64 b.sp)).set 3 (.int .i64 b.gap)).set 4 (.int .i64 b.hold)).set 5 (.slice v.U b.nu v.cu)).set 6 (.slice v.D b.nd v.cd)).set 7 (.slice v.C b.nc v.cc)).set 8 (.int .i64 b.fl)).set 9 (.int .i64 b.dir)).set 10 (.bool b.op)
  simp only [List.setIfInBounds_toArray, List.set_cons_zero, List.set_cons_succ] at h'
  simpa only [Go.Proofs.YthkpikkjgggimaaGreatDoor.sets, putL, List.foldl_cons, List.foldl_nil, bcells] using h'
theorem BBox.keptO {W W' : World} {b : Nat} {row : Option Nat} {xs : Array Value} (h : BBox W b xs) (hg : W.grownBy W' row) (hne : row ≠ some b) : BBox W' b xs :=
  (hg.block b h.bx.lt (by intro e; exact hne e.symm)).trans h
theorem offI {W : World} {g base n c : Nat} {xs : Array Value} {A : Option Addr} {f : Nat → Int} (h : BBox W g xs) (r : Row W base A n c f) : ∀ x, A = some x → g ≠ x.block := by
  intro x hx e
  rcases r.2 with ⟨hv, _⟩ | ⟨k, cap, cur, hv, _, hh, _⟩
  · simp only [Value.slice.injEq] at hv; rw [hx] at hv; cases hv.1
  · simp only [Value.slice.injEq] at hv
    rw [hx] at hv
    have hk : x = ⟨k, 0, none⟩ := Option.some.inj hv.1
    subst hk
    simp only at e
    rw [← e, h] at hh
    simp at hh
theorem offB {W : World} {g base n c : Nat} {xs : Array Value} {A : Option Addr} {f : Nat → Bool} (h : BBox W g xs) (r : RowB W base A n c f) : ∀ x, A = some x → g ≠ x.block := by
  intro x hx e
  rcases r.2 with ⟨hv, _⟩ | ⟨k, cap, cur, hv, _, hh, _⟩
  · simp only [Value.slice.injEq] at hv; rw [hx] at hv; cases hv.1
  · simp only [Value.slice.injEq] at hv
    rw [hx] at hv
    have hk : x = ⟨k, 0, none⟩ := Option.some.inj hv.1
    subst hk
    simp only at e
    rw [← e, h] at hh
    simp at hh
/-- A building's slices lie in blocks of their own, which is no box of a building. -/
theorem off_box {W : World} {g base : Nat} {xs : Array Value} {v : Bv} {b : Bld} (h : BBox W g xs) (o : OwnB W base v b) : Off g v := ⟨offI h o.h, offB h o.k.u, offB h o.k.d, offB h o.k.c⟩
theorem own_block_ne {C : Option Addr} {m k g : Nat} (h : ∀ x, C = some x → g ≠ x.block) : (Value.slice C m k).ownBlock ≠ some g := by
  cases C with
  | none => simp [Value.ownBlock]
  | some y => have := h y rfl; simp [Value.ownBlock]; omega
theorem sets_off {W : World} {base : Nat} {v : Bv} {b : Bld} (l : List (Addr × Value)) (o : OwnB W base v b) (hl : ∀ q ∈ l, Off q.1.block v) : OwnB (sets W l) base v b := by
  induction l generalizing W with
  | nil => exact o
  | cons q l ih => exact ih (ownB_off (hl q (by simp)) o) (fun x hx => hl x (by simp [hx]))
/-- A list of one deed. -/
def DBox (W : World) (b : Nat) (x y z : Int) : Prop := W.heap[b]? = some (.cells #[.int .i64 x, .int .i64 y, .int .i64 z] 105 (0, 0))
theorem DBox.deeds {W : World} {b : Nat} {x y z : Int} (h : DBox W b x y z) : Deeds W W.heap.size (some ⟨b, 0, none⟩) 1 (fun _ => (x, y, z)) := by
  have hx : Bx W b #[.int .i64 x, .int .i64 y, .int .i64 z] := ⟨_, h⟩
  have c := hx.cells
  refine fun _ => ⟨b, 0, rfl, hx.lt, fun i hi => ?_⟩
  obtain rfl : i = 0 := by omega
  exact ⟨c 0, c 1, c 2⟩
/-- A building of the call's own with few floors. -/
def OwnV (W : World) (base : Nat) (v : Value) : Prop := ∃ v' b', v = bval v' b' ∧ OwnB W base v' b' ∧ b'.Upto 8
def BldR (base g : Nat) : Nat → Value → World → Prop
  | 0, v, W => OwnV W base v
  | 1, v, _ => v = .pointer (some ⟨g, 0, none⟩)
  | 2, v, W => OwnV W base v
  | 3, v, _ => ∃ x y z : Int, v = .agg #[.int .i64 x, .int .i64 y, .int .i64 z]
  | 4, v, W => ∃ b, ∃ x y z : Int, v = .slice (some ⟨b, 0, none⟩) 1 1 ∧ base ≤ b ∧ DBox W b x y z
  | 5, v, W => OwnV W base v
  | _, _, _ => True
theorem OwnV.below {W W' : World} {base : Nat} {v : Value} (h : OwnV W base v) (hb : Below W.heap.size W W') : OwnV W' base v := by
  obtain ⟨v', b', e, o, hu⟩ := h
  exact ⟨v', b', e, ownB_below o hb, hu⟩
theorem OwnV.picked {W W' : World} {base g : Nat} {v : Value} (h : OwnV W base v) (hg : W.grownBy W' (some g)) (hlt : g < base) : OwnV W' base v := by
  obtain ⟨v', b', e, o, hu⟩ := h
  exact ⟨v', b', e, o.kept hg (.inr (by intro k e; cases e; left; exact hlt)), hu⟩
theorem OwnV.stored {W : World} {base g : Nat} {xs : Array Value} {v : Value} (h : OwnV W base v) (hb : BBox W g xs) (v0 : Bv) (b0 : Bld) : OwnV (sets W (putL g v0 b0)) base v := by
  obtain ⟨v', b', e, o, hu⟩ := h
  exact ⟨v', b', e, sets_off _ o (fun q hq => by rw [putL_block q hq]; exact off_box hb o), hu⟩
theorem BldR.below {base g : Nat} {W W' : World} (hb : Below W.heap.size W W') : ∀ j v, BldR base g j v W → BldR base g j v W' := by
  intro j v h
  unfold BldR at h ⊢
  split at h
  all_goals first
    | exact h.below hb
    | (obtain ⟨b, x, y, z, h1, h2, h3⟩ := h; exact ⟨b, x, y, z, h1, h2, (hb.block b (some_lt h3)).trans h3⟩)
    | exact h
theorem BldR.picked {base g : Nat} {W W' : World} (hg : W.grownBy W' (some g)) (hlt : g < base) : ∀ j v, BldR base g j v W → BldR base g j v W' := by
  intro j v h
  unfold BldR at h ⊢
  split at h
  all_goals first
    | exact h.picked hg hlt
    | (obtain ⟨b, x, y, z, h1, h2, h3⟩ := h; exact ⟨b, x, y, z, h1, h2, (hg.block b (some_lt h3) (by intro e; cases e; omega)).trans h3⟩)
    | exact h
theorem BldR.stored {base g g6 : Nat} {W : World} {xs : Array Value} (hb : BBox W g6 xs) (v0 : Bv) (b0 : Bld) : ∀ j v, BldR base g j v W → BldR base g j v (sets W (putL g6 v0 b0)) := by
  intro j v h
  unfold BldR at h ⊢
  split at h
  all_goals first
    | exact h.stored hb v0 b0
    | (with_reducible exact h)
    | exact trivial
    | skip
  · obtain ⟨b, x, y, z, h1, h2, h3⟩ := h
    refine ⟨b, x, y, z, h1, h2, ?_⟩
    have hne : b ≠ g6 := by intro e; subst e; rw [DBox, hb] at h3; simp at h3
    have := (sets_grown (w := W) (putL g6 v0 b0) putL_block).block b (some_lt h3) (by intro e; cases e; exact hne rfl)
    exact this.trans h3
/-- What holds of the world in l20Building's region. -/
structure BldG (w : World) (base g g6 Q : Nat) (k : Nat) (W : World) : Prop where
  r : Reads W g (Q + 25 * k)
  o : Only w.heap.size g w W
  h : base ≤ W.heap.size
  c4 : BBox W w.heap.size (bcells Bv.none Bld.none)
  c6 : ∃ v b, BBox W g6 (bcells v b) ∧ OwnB W base v b ∧ b.Upto 8
section
variable {w W W' : World} {base g g6 Q k : Nat}
theorem BldG.step (h : BldG w base g g6 Q k W) : BldG w base g g6 Q (k + 1) W := ⟨h.r.mono (by omega), h.o, h.h, h.c4, h.c6⟩
theorem BldG.weak {Q' k' : Nat} (h : BldG w base g g6 Q k W) (hq : Q + 25 * k ≤ Q' + 25 * k') : BldG w base g g6 Q' k' W := ⟨h.r.mono hq, h.o, h.h, h.c4, h.c6⟩
theorem BldG.below (h : BldG w base g g6 Q k W) (hb : Below W.heap.size W W') : BldG w base g g6 Q (k + 1) W' := by
  obtain ⟨v, b, h1, h2, h3⟩ := h.c6
  exact ⟨(h.r.mono (by omega)).below hb h.r.lt, h.o.trans ⟨hb.os, hb.tape, hb.output, hb.size, fun k hk _ => hb.block k (by have := h.o.size; omega)⟩, Nat.le_trans h.h hb.size, h.c4.below hb, ⟨v, b, h1.below hb, ownB_below h2 hb, h3⟩⟩
theorem BldG.picked (h : BldG w base g g6 Q k W) (hg : W.grownBy W' (some g)) (hr : Reads W' g (Q + 25 * k + 25)) (hgl : g < w.heap.size) (hb : w.heap.size < base) (h6 : w.heap.size < g6) : BldG w base g g6 Q (k + 1) W' := by
  obtain ⟨v, b, h1, h2, h3⟩ := h.c6
  exact ⟨hr.mono (by omega), h.o.picked hg (by have := h.h; omega), Nat.le_trans h.h hg.size, h.c4.kept hg (by omega), ⟨v, b, h1.kept hg (by omega), h2.kept hg (.inr (by intro k e; cases e; left; omega)), h3⟩⟩
theorem BldG.stored (h : BldG w base g g6 Q k W) (hgl : g < w.heap.size) (h6 : w.heap.size < g6) {v : Bv} {b : Bld} (ho : OwnB W base v b) (hu : b.Upto 8) : BldG w base g g6 Q (k + 1) (sets W (putL g6 v b)) := by
  obtain ⟨v', b', h1, h2, h3⟩ := h.c6
  have hg := sets_grown (w := W) (putL g6 v b) putL_block
  have hbl : Below g6 W (sets W (putL g6 v b)) := sets_below _ (Below.refl _ _) (fun q hq => by rw [putL_block q hq]; exact Nat.le_refl _)
  exact ⟨(h.r.mono (by omega)).below hbl (by omega), h.o.trans ⟨hbl.os, hbl.tape, hbl.output, hbl.size, fun k hk _ => hbl.block k (by omega)⟩, by rw [sets_size]; exact h.h, h.c4.kept hg (by omega), ⟨v, b, h1.put v b, sets_off _ ho (fun q hq => by rw [putL_block q hq]; exact off_box h1 ho), hu⟩⟩
end
/-- What a drawing of a building leaves. -/
def DrawnB (Q : Nat) (w : World) (g : Nat) (e : Ending) (w' : World) : Prop :=
  ∃ v b, e = .returned (bval v b) ∧ ReadB w' w'.heap.size v b ∧ b.Upto 9 ∧ Reads w' g Q ∧ w.grownBy w' (some g) ∧ ∀ k, k < w.heap.size → Off k v

theorem readB_sets {W : World} {B : Nat} {v : Bv} {b : Bld} (l : List (Addr × Value)) (r : ReadB W B v b) (hl : ∀ q ∈ l, Off q.1.block v) : ReadB (sets W l) B v b := by
  induction l generalizing W with
  | nil => exact r
  | cons q l ih => exact ih (r.off (hl q (by simp))) (fun x hx => hl x (by simp [hx]))
theorem drawn_end {w W : World} {g Q : Nat} {v : Bv} {b : Bld} (hgl : g < w.heap.size) (hrd : Reads W g Q) (ho : Only w.heap.size g w W) (hr : ReadB W W.heap.size v b) (hoff : ∀ k, k ≤ w.heap.size → Off k v) (hu : b.Upto 9) :
    ReadB (sets W (putL w.heap.size v b)) (sets W (putL w.heap.size v b)).heap.size v b ∧ b.Upto 9 ∧ Reads (sets W (putL w.heap.size v b)) g Q ∧ w.grownBy (sets W (putL w.heap.size v b)) (some g) ∧ ∀ k, k < w.heap.size → Off k v := by
  have hbl : Below w.heap.size W (sets W (putL w.heap.size v b)) := sets_below _ (Below.refl _ _) (fun q hq => by rw [putL_block q hq]; exact Nat.le_refl _)
  refine ⟨?_, hu, hrd.below hbl hgl, (ho.trans ⟨hbl.os, hbl.tape, hbl.output, hbl.size, fun k hk _ => hbl.block k hk⟩).grow, fun k hk => hoff k (Nat.le_of_lt hk)⟩
  rw [sets_size]
  exact readB_sets _ hr (fun q hq => by rw [putL_block q hq]; exact hoff _ (Nat.le_refl _))
theorem RowB.grown_apart {W W' : World} {base n c : Nat} {A C : Option Addr} {f : Nat → Bool} {m k : Nat} (h : RowB W base A n c f) (hg : W.grownBy W' (Value.slice C m k).ownBlock) (ha : Apart A C) : RowB W' base A n c f := by
  refine World.ownsRow.kept h hg ?_
  cases A with
  | none => exact .inl rfl
  | some x =>
    right
    cases C with
    | none => simp [Value.ownBlock]
    | some y =>
      have := ha x y rfl rfl
      simpa [Value.ownBlock] using this
theorem Row.grown_apart {W W' : World} {base n c : Nat} {A C : Option Addr} {f : Nat → Int} {m k : Nat} (h : Row W base A n c f) (hg : W.grownBy W' (Value.slice C m k).ownBlock) (ha : Apart A C) : Row W' base A n c f := by
  refine World.ownsRow.kept h hg ?_
  cases A with
  | none => exact .inl rfl
  | some x =>
    right
    cases C with
    | none => simp [Value.ownBlock]
    | some y =>
      have := ha x y rfl rfl
      simpa [Value.ownBlock] using this
theorem own_off' {W : World} {base g : Nat} {v : Bv} {b : Bld} (h : OwnB W base v b) (hg : g < base) : Off g v := own_off h (.inl hg)

set_option maxRecDepth 8000 in
set_option maxHeartbeats 25600000 in
theorem l20Building_any {w : World} {g Q : Nat} {N : Int} (h0 : 0 ≤ N) (hN : N ≤ 1000000000) (hQ : Q + 10000 ≤ 1000000) (r : Reads w g Q) :
    Calls Tryz.prog 30 #[.pointer (some ⟨g, 0, none⟩), .int .i64 N] w (DrawnB (Q + 10000) w g) := by
  have hgl := r.lt
  have HA := Lib.hid (r.alloc (.cells (bcells Bv.none Bld.none) 36))
  have HOA := Lib.hid ((Only.refl w.heap.size g w).alloc (Nat.le_refl _) (.cells (bcells Bv.none Bld.none) 36))
  have HXA : Hid (BBox (w.alloc (.cells (bcells Bv.none Bld.none) 36)) w.heap.size (bcells Bv.none Bld.none)) := Lib.hid (by show (w.heap.push _)[w.heap.size]? = _; simp)
  clear r
  unfold DrawnB
  simp only [bcells, Bv.none, Bld.none] at HA HOA HXA
  go_enter Tryz.func30, Tryz.ntmps30
  go_wp2_with fail
  refine (l20Floors_zero (by omega) HA.out).mono ?_
  rintro e w1 ⟨A, n, c, f, rfl, hn1, hn8, hr1, hrd1, hg1⟩
  have HR1 := Lib.hid (hr1.mono (base' := w.heap.size + 1) (by simp))
  have HP1 := Lib.hid hr1.place
  have HRD1 := Lib.hid hrd1
  have HO1 := Lib.hid (HOA.out.picked hg1 (by simp))
  have HX1 := Lib.hid (HXA.out.kept hg1 (by omega))
  have hs1 : w.heap.size + 1 ≤ w1.heap.size := by have := hg1.size; simpa using this
  clear hr1 hrd1 hg1 HA HOA HXA
  go_wp2_with fail
  refine (l20Calls_any hn1 hn8 (by omega) HRD1.out).mono ?_
  rintro e w2 ⟨U, cu, D, cd, C, cc, up, dn, car, rfl, hv2, hk2, hrd2, hg2⟩
  have HR2 := Lib.hid (HR1.out.kept hg2 (.inr (by intro k e; cases e; left; omega)))
  have HK2 := Lib.hid (hk2.mono hs1)
  have HAU := Lib.hid (HP1.out.apart hk2.u.place (Nat.le_refl _))
  have HAD := Lib.hid (HP1.out.apart hk2.d.place (Nat.le_refl _))
  have HAC := Lib.hid (HP1.out.apart hk2.c.place (Nat.le_refl _))
  have HRD2 := Lib.hid hrd2
  have HO2 := Lib.hid (HO1.out.picked hg2 (by omega))
  have HX2 := Lib.hid (HX1.out.kept hg2 (by omega))
  have hs2 : w.heap.size + 1 ≤ w2.heap.size := Nat.le_trans hs1 hg2.size
  clear hk2 hrd2 hg2 HRD1 HR1 HP1 HO1 HX1
  go_wp2_with fail
  refine (HRD2.out.pick 2 (by omega) (by omega)).mono ?_
  rintro e w3 ⟨x3, rfl, hp3, hrd3, hg3⟩
  obtain ⟨p1, p2⟩ := picked_lit0 hp3 (by omega)
  have HR3 := Lib.hid (HR2.out.kept hg3 (.inr (by intro k e; cases e; left; omega)))
  have HK3 := Lib.hid (HK2.out.kept hg3 (.inr (by intro k e; cases e; left; omega)))
  have HRD3 := Lib.hid hrd3
  have HO3 := Lib.hid (HO2.out.picked hg3 (by omega))
  have HX3 := Lib.hid (HX2.out.kept hg3 (by omega))
  have hs3 : w.heap.size + 1 ≤ w3.heap.size := Nat.le_trans hs2 hg3.size
  clear hp3 hrd3 hg3 HRD2 HR2 HK2 HO2 HX2
  obtain ⟨bA, rfl, hbA, hbA2⟩ := HR3.out.form hn1
  have hba := (Below.refl w3.heap.size w3).alloc (Nat.le_refl _) (.cells #[.slice (some ⟨bA, 0, none⟩) n c, .int .i64 0, .int .i64 0, .int .i64 0, .int .i64 0, .slice U n cu, .slice D n cd, .slice C n cc, .int .i64 (-1), .int .i64 (2 * x3 - 1), .bool false] 36)
  have HRDa := Lib.hid (HRD3.out.alloc (.cells #[.slice (some ⟨bA, 0, none⟩) n c, .int .i64 0, .int .i64 0, .int .i64 0, .int .i64 0, .slice U n cu, .slice D n cd, .slice C n cc, .int .i64 (-1), .int .i64 (2 * x3 - 1), .bool false] 36))
  have HRa := Lib.hid (HR3.out.alloc (.cells #[.slice (some ⟨bA, 0, none⟩) n c, .int .i64 0, .int .i64 0, .int .i64 0, .int .i64 0, .slice U n cu, .slice D n cd, .slice C n cc, .int .i64 (-1), .int .i64 (2 * x3 - 1), .bool false] 36))
  have HKa := Lib.hid (HK3.out.below hba (Nat.le_refl _))
  have HOa := Lib.hid (HO3.out.alloc (by omega) (.cells #[.slice (some ⟨bA, 0, none⟩) n c, .int .i64 0, .int .i64 0, .int .i64 0, .int .i64 0, .slice U n cu, .slice D n cd, .slice C n cc, .int .i64 (-1), .int .i64 (2 * x3 - 1), .bool false] 36))
  have HXa := Lib.hid (HX3.out.below hba)
  have HBa : Hid (BBox (w3.alloc (.cells #[.slice (some ⟨bA, 0, none⟩) n c, .int .i64 0, .int .i64 0, .int .i64 0, .int .i64 0, .slice U n cu, .slice D n cd, .slice C n cc, .int .i64 (-1), .int .i64 (2 * x3 - 1), .bool false] 36)) w3.heap.size #[.slice (some ⟨bA, 0, none⟩) n c, .int .i64 0, .int .i64 0, .int .i64 0, .int .i64 0, .slice U n cu, .slice D n cd, .slice C n cc, .int .i64 (-1), .int .i64 (2 * x3 - 1), .bool false]) := Lib.hid (by show (w3.heap.push _)[w3.heap.size]? = _; simp)
  clear hba
  go_wp2_with fail
  refine (HRDa.out.pick (n : Int) (by omega) (by omega)).mono ?_
  rintro e w4 ⟨x4, rfl, hp4, hrd4, hg4⟩
  obtain ⟨p3, p4⟩ := picked_lit0 hp4 (by omega)
  have HRD4 := Lib.hid hrd4
  have HR4 := Lib.hid (HRa.out.kept hg4 (.inr (by intro k e; cases e; left; omega)))
  have HK4 := Lib.hid (HKa.out.kept hg4 (.inr (by intro k e; cases e; left; omega)))
  have HO4 := Lib.hid (HOa.out.picked hg4 (by simp; omega))
  have HX4 := Lib.hid (HXa.out.kept hg4 (by omega))
  have HB4 := Lib.hid (HBa.out.kept hg4 (by omega))
  have hs4 : w3.heap.size + 1 ≤ w4.heap.size := by have := hg4.size; simpa using this
  clear hp4 hrd4 hg4 HRDa HRD3 HR3 HRa HK3 HKa HO3 HOa HX3 HXa HBa
  obtain ⟨z4, rfl⟩ := Int.eq_ofNat_of_zero_le p3
  have hz4 : z4 < n := by omega
  have cz := HR4.out.cell hz4
  have c6 := HB4.out.bx.cells
  have f6 := HB4.out.bx.free
  have hbl4 := (Below.refl w3.heap.size w4).setCell (p := ⟨w3.heap.size, 1, none⟩) (Nat.le_refl _) (.int .i64 (f z4))
  have HRD5 := Lib.hid (HRD4.out.below hbl4 (by omega))
  have HR5 := Lib.hid (HR4.out.other ⟨w3.heap.size, 1, none⟩ (.int .i64 (f z4)) (by intro y hy; cases hy; simp; omega))
  have HO5 := Lib.hid (HO4.out.trans ⟨hbl4.os, hbl4.tape, hbl4.output, hbl4.size, fun k hk _ => hbl4.block k (by omega)⟩)
  have HX5 := Lib.hid (HX4.out.far ⟨w3.heap.size, 1, none⟩ (.int .i64 (f z4)) (by simp; omega))
  have HB5 := Lib.hid (HB4.out.set 1 (.int .i64 (f z4)))
  have hofK : ∀ {A : Option Addr} {n c : Nat} {p : Nat → Bool}, RowB w4 (w.heap.size + 1) A n c p → ∀ x, A = some x → w3.heap.size ≠ x.block := by
    intro A n c p r x hx e
    rcases r.2 with ⟨hv, _⟩ | ⟨k, cap, cur, hv, _, hh, _⟩
    · simp only [Value.slice.injEq] at hv; rw [hx] at hv; cases hv.1
    · simp only [Value.slice.injEq] at hv
      rw [hx] at hv
      have hk : x = ⟨k, 0, none⟩ := Option.some.inj hv.1
      subst hk
      simp only at e
      have hb := HB4.out
      unfold BBox at hb
      rw [e, hh] at hb
      simp at hb
  have HK5 : Hid (OwnC (w4.setCell ⟨w3.heap.size, 1, none⟩ (.int .i64 (f z4))) (w.heap.size + 1) U n cu up D n cd dn C n cc car) := Lib.hid ⟨HK4.out.u.other _ _ (hofK HK4.out.u), HK4.out.d.other _ _ (hofK HK4.out.d), HK4.out.c.other _ _ (hofK HK4.out.c), HK4.out.ud, HK4.out.uc, HK4.out.dc⟩
  clear hbl4 hofK HRD4 HR4 HO4 HX4 HB4 HK4
  go_wp2_with fail
  refine (HRD5.out.pick 40 (by omega) (by omega)).mono ?_
  rintro e w6 ⟨x6, rfl, hp6, hrd6, hg6⟩
  obtain ⟨p5, p6⟩ := picked_lit0 hp6 (by omega)
  have HG : Hid (BldG w (w.heap.size + 1) g w3.heap.size (Q + 223) 0 w6) := Lib.hid ⟨hrd6.mono (by omega), HO5.out.picked hg6 (by simp; omega), by have := hg6.size; simp at this; omega, HX5.out.kept hg6 (by omega),
    ⟨⟨some ⟨bA, 0, none⟩, c, U, cu, D, cd, C, cc⟩, ⟨n, f, f z4, 0, 0, 0, n, up, n, dn, n, car, -1, 2 * x3 - 1, false⟩, HB5.out.kept hg6 (by omega), (⟨HR5.out, HK5.out, HAU.out, HAD.out, HAC.out⟩ : OwnB _ _ ⟨some ⟨bA, 0, none⟩, c, U, cu, D, cd, C, cc⟩ ⟨n, f, f z4, 0, 0, 0, n, up, n, dn, n, car, -1, 2 * x3 - 1, false⟩).kept hg6 (.inr (by intro k e; cases e; left; omega)), ⟨hn8, hn8, hn8, hn8⟩⟩⟩
  clear hp6 hrd6 hg6 HRD5 HR5 HK5 HO5 HX5 HB5 HAU HAD HAC c6 f6 cz hv2
  obtain ⟨k1, rfl⟩ := Int.eq_ofNat_of_zero_le p5
  generalize hg6 : w3.heap.size = g6 at *
  clear hg6
  go_wp2
  go_loopw [7] (fun s7 wr => ∃ (k i : Nat), s7 = .int .i64 k ∧ i + k ≤ 39 ∧ BldG w (w.heap.size + 1) g g6 (Q + 223 + 200 * i) 0 wr) (fun s7 _ => (intOf s7).toNat)
  case atStart => exact ⟨k1, 0, rfl, by omega, HG.out⟩
  case round =>
    obtain ⟨k, i, rfl, hik, hG⟩ := hrel
    clear HG
    have HG := Lib.hid hG
    clear hG
    by_cases hk : 0 < k
    · go_wp2_with fail
      rename_i hK
      refine wp_region_any (by kernel_rfl) ?_
      refine wpAny_typed 7 (fun i => (#[37, 38, 39, 40, 41, 42, 1000] : Array Nat).getD i 0) (fun i => i == 6) (BldR (w.heap.size + 1) g) (BldG w (w.heap.size + 1) g g6 (Q + 223 + 200 * i)) rfl 74 rfl (by kernel_rfl)
        ⟨HG.out.r.drewN 1, HG.out.o.drewN 1, HG.out.h, HG.out.c4, by obtain ⟨v', b', q1, q2, q3⟩ := HG.out.c6; exact ⟨v', b', q1, ownB_below q2 (below_drewN (Below.refl _ _) 1), q3⟩⟩ ?_ ?_
      · intro a W U hR hG
        obtain ⟨f, hf, ha⟩ := U.form [false, false, false, false, false, false, false, false, false, false, false, false, false, false, false, false, false, false, false, false, false, false, false, false, false, false, false, false, false, false, false, false, false, false, false, false, false, true, true, true, true, true, true, false, false, false, false, false, false, false, false, false, false, false, false, false, false, false, false, false, false, false, false, false, false, false, false, false, false, false, false, false, false, false] rfl (by decide)
        simp only [letters, cond_true, cond_false, Nat.reduceAdd] at ha
        obtain ⟨kk, hkk, hg⟩ := hG
        have HG1 := Lib.hid (hg.weak (Q' := Q + 223 + 200 * (i + 1)) (k' := 0) (by omega))
        clear hR hf U hg HG
        subst ha
        refine hK _ _ ?_
        go_wp2
        go_roundw
        case rel => exact ⟨k - 1, i + 1, by go_num, by omega, HG1.out⟩
        case measure => simp [intOf]; omega
      · intro i' o ho a W k' U hG hk' hd
        have hlt : i' < 7 := (Array.getElem?_eq_some_iff.1 ho).1
        have h6 : w.heap.size < g6 := by omega
        have ld : ∀ {i' : Nat}, a.tmps[6]?.getD undef = .pointer (some ⟨g6, 0, none⟩) := by
          have := U.other 6 (by decide)
          intro _; simpa using this
        rcases (by omega : i' = 0 ∨ i' = 1 ∨ i' = 2 ∨ i' = 3 ∨ i' = 4 ∨ i' = 5 ∨ i' = 6) with rfl | rfl | rfl | rfl | rfl | rfl | rfl
        all_goals (refine wpOp_of ho (by cases ho; rfl) ?_; cases ho)
        · have t6 := @ld 0
          obtain ⟨v', b', hb, ho', hu⟩ := hG.c6
          have c := hb.bx.cells
          unfold bcells at c
          unfold Oper.wp
          simp [go_sem, Act.eval, t6, c]
          exact ⟨hG.step, fun j v _ h => h, .inl ⟨rfl, _, rfl, ⟨v', b', rfl, ho', hu⟩⟩⟩
        · have h0 := U.other 0 (by decide)
          have t0 : a.tmps[0]?.getD undef = .pointer (some ⟨g, 0, none⟩) := by simpa using h0
          unfold Oper.wp
          simp [go_sem, Act.eval, t0]
          exact ⟨hG.step, fun j v _ h => h, .inl ⟨rfl, _, rfl, rfl⟩⟩
        · have t6 := @ld 0
          obtain ⟨v', b', hb, ho', hu⟩ := hG.c6
          have c := hb.bx.cells
          unfold bcells at c
          unfold Oper.wp
          simp [go_sem, Act.eval, t6, c]
          exact ⟨hG.step, fun j v _ h => h, .inl ⟨rfl, _, rfl, ⟨v', b', rfl, ho', hu⟩⟩⟩
        · have h1 := hd ⟨1, .data⟩ (by simp) rfl
          obtain ⟨v', b', h2, ho', hu⟩ := hd ⟨2, .data⟩ (by simp) rfl
          have t38 : a.tmps[38]?.getD undef = .pointer (some ⟨g, 0, none⟩) := by simpa [BldR] using h1
          have t39 : a.tmps[39]?.getD undef = bval v' b' := by simpa using h2
          unfold Oper.wp
          simp [go_sem, Act.eval, t38, t39]
          refine (l20BuildDeed_any (v := v') (b := b') (by omega) (by have := hu.1; omega) hG.r).mono ?_
          rintro e w' ⟨x, y, z, rfl, hr, hg⟩
          exact ⟨hG.picked hg (hr.mono (by omega)) hgl (by omega) h6, fun j v _ h => BldR.picked hg (by omega) j v h, .inl ⟨rfl, _, rfl, ⟨x, y, z, rfl⟩⟩⟩
        · obtain ⟨x, y, z, h3⟩ := hd ⟨3, .data⟩ (by simp) rfl
          have t40 : a.tmps[40]?.getD undef = .agg #[.int .i64 x, .int .i64 y, .int .i64 z] := by simpa using h3
          have hba := (Below.refl W.heap.size W).alloc (Nat.le_refl _) (.cells #[.int .i64 x, .int .i64 y, .int .i64 z] 105)
          unfold Oper.wp
          simp [go_sem, Act.eval, t40]
          refine ⟨hG.below hba, fun j v _ h => BldR.below hba j v h, .inl ⟨rfl, _, rfl, ⟨W.heap.size, x, y, z, rfl, hG.h, ?_⟩⟩⟩
          show (W.heap.push _)[W.heap.size]? = _
          simp
        · obtain ⟨v', b', h0, ho', hu⟩ := hd ⟨0, .data⟩ (by simp) rfl
          obtain ⟨bd, x, y, z, h4, hbd, hdb⟩ := hd ⟨4, .data⟩ (by simp) rfl
          have t37 : a.tmps[37]?.getD undef = bval v' b' := by simpa using h0
          have t41 : a.tmps[41]?.getD undef = .slice (some ⟨bd, 0, none⟩) 1 1 := by simpa using h4
          unfold Oper.wp
          simp [go_sem, Act.eval, t37, t41]
          refine (spec_BuildRun (n := 1) (c := 1) (v := v') (b := b') (hu.small (by omega)) (Nat.le_refl _) ho'.read (by omega) hdb.deeds).mono ?_
          unfold RunPost
          rintro e w' ⟨v2, rfl, ho2, hb2⟩
          exact ⟨hG.below hb2, fun j v _ h => BldR.below hb2 j v h, .inl ⟨rfl, _, rfl, ⟨v2, _, rfl, ho2.mono hG.h, ran_upto hu _ _⟩⟩⟩
        · have t6 := @ld 0
          obtain ⟨v2, b2, h5, ho2, hu2⟩ := hd ⟨5, .data⟩ (by simp) rfl
          have t42 : a.tmps[42]?.getD undef = bval v2 b2 := by simpa using h5
          obtain ⟨v', b', hb, ho', hu⟩ := hG.c6
          have c := hb.bx.cells
          have fz := hb.bx.free
          unfold bcells at c
          unfold bval bcells at t42
          unfold Oper.wp
          simp [go_sem, Act.eval, t6, t42, c, fz]
          exact ⟨hG.stored hgl h6 ho2 hu2, fun j v _ h => BldR.stored hb v2 b2 j v h, .inr ⟨rfl, trivial⟩⟩
    · obtain rfl : k = 0 := by omega
      go_wp2_with fail
      refine (HG.out.r.odd N h0 hN (by omega)).mono ?_
      rintro e w7 ⟨q, rfl, hrd7, hg7⟩
      obtain ⟨v', b', hb, ho', hu⟩ := HG.out.c6
      have HB7 := Lib.hid (hb.kept hg7 (by omega))
      have HOW7 := Lib.hid (ho'.kept hg7 (.inr (by intro k e; cases e; left; omega)))
      have HX7 := Lib.hid (HG.out.c4.kept hg7 (by omega))
      have HO7 := Lib.hid (HG.out.o.picked hg7 (by have := HG.out.h; omega))
      have HRD7 := Lib.hid (hrd7.mono (Q' := Q + 9000) (by omega))
      have HU := Lib.hid hu
      have hs7 : w.heap.size + 1 ≤ w7.heap.size := Nat.le_trans HG.out.h hg7.size
      clear hb ho' hrd7 hg7 hu HG
      cases q
      · have c6 := HB7.out.bx.cells
        have c4 := HX7.out.bx.cells
        have f4 := HX7.out.bx.free
        simp only [bcells, Bv.none, Bld.none] at c6 c4
        go_wp2
        refine bodyPost_ret (v := bval v' b') (by simp [bval, bcells, results, Tryz.results30, go_sem, c4, c6]) rfl ⟨v', b', rfl, ?_⟩
        exact drawn_end (W := w7) hgl (HRD7.out.mono (by omega)) HO7.out HOW7.out.read (fun k hk => own_off' HOW7.out (by omega)) (HU.out.mono (by omega))
      · go_wp2_with fail
        refine (HRD7.out.pick 4 (by omega) (by omega)).mono ?_
        rintro e w8 ⟨x8, rfl, hp8, hrd8, hg8⟩
        obtain ⟨p7, p8⟩ := picked_lit0 hp8 (by omega)
        have HB8 := Lib.hid (HB7.out.kept hg8 (by omega))
        have HOW8 := Lib.hid (HOW7.out.kept hg8 (.inr (by intro k e; cases e; left; omega)))
        have HX8 := Lib.hid (HX7.out.kept hg8 (by omega))
        have HO8 := Lib.hid (HO7.out.picked hg8 (by omega))
        have HRD8 := Lib.hid hrd8
        have hs8 : w.heap.size + 1 ≤ w8.heap.size := Nat.le_trans hs7 hg8.size
        clear hp8 hrd8 hg8 HRD7 HO7 HX7 HB7 HOW7
        have c6 := HB8.out.bx.cells
        have f6 := HB8.out.bx.free
        have c4 := HX8.out.bx.cells
        have f4 := HX8.out.bx.free
        simp only [bcells, Bv.none, Bld.none] at c6 c4
        have h6 : w.heap.size < g6 := by omega
        have hset : ∀ (o : Nat) (u : Value), Below g6 w8 (w8.setCell ⟨g6, o, none⟩ u) := fun o u => (Below.refl g6 w8).setCell (p := ⟨g6, o, none⟩) (Nat.le_refl g6) u
        have HSET := Lib.hid hset
        clear hset
        obtain ⟨A', cA', U', cu', D', cd', C', cc'⟩ := v'
        obtain ⟨n', f', pos', sp', gap', hold', nu', up', nd', dn', nc', car', fl', dir', op'⟩ := b'
        simp only at c6
        rcases (by omega : x8 = 0 ∨ x8 = 1 ∨ x8 = 2 ∨ x8 = 3) with rfl | rfl | rfl | rfl
        · have hbl : Below g6 w8 (w8.setCell ⟨g6, 9, none⟩ (.int .i64 0)) := (Below.refl g6 w8).setCell (p := ⟨g6, 9, none⟩) (Nat.le_refl g6) _
          have ho1 : OwnB (w8.setCell ⟨g6, 9, none⟩ (.int .i64 0)) (w.heap.size + 1) ⟨A', cA', U', cu', D', cd', C', cc'⟩ ⟨n', f', pos', sp', gap', hold', nu', up', nd', dn', nc', car', fl', dir', op'⟩ := ownB_off (p := ⟨g6, 9, none⟩) (off_box HB8.out HOW8.out) HOW8.out
          have HE := Lib.hid (drawn_end (v := ⟨A', cA', U', cu', D', cd', C', cc'⟩) (b := ⟨n', f', pos', sp', gap', hold', nu', up', nd', dn', nc', car', fl', 0, op'⟩) hgl ((HRD8.out.below hbl (by omega)).mono (Q' := Q + 10000) (by omega)) (HO8.out.trans ⟨hbl.os, hbl.tape, hbl.output, hbl.size, fun k hk _ => hbl.block k (by omega)⟩) (⟨ho1.h, ho1.k, ho1.hu, ho1.hd, ho1.hc⟩ : OwnB _ (w.heap.size + 1) ⟨A', cA', U', cu', D', cd', C', cc'⟩ ⟨n', f', pos', sp', gap', hold', nu', up', nd', dn', nc', car', fl', 0, op'⟩).read (fun k hk => own_off' ho1 (by omega)) (HU.out.mono (by omega)))
          clear hbl ho1
          simp only [sets, putL, List.foldl_cons, List.foldl_nil] at HE
          go_wp2
          refine bodyPost_ret (v := .agg #[.slice A' n' cA', .int .i64 pos', .int .i64 sp', .int .i64 gap', .int .i64 hold', .slice U' nu' cu', .slice D' nd' cd', .slice C' nc' cc', .int .i64 fl', .int .i64 0, .bool op']) (by simp [results, Tryz.results30, go_sem, c4, c6]) rfl ⟨⟨A', cA', U', cu', D', cd', C', cc'⟩, ⟨n', f', pos', sp', gap', hold', nu', up', nd', dn', nc', car', fl', 0, op'⟩, rfl, ?_⟩
          with_reducible exact HE.out
        · have hbl : Below g6 w8 (w8.setCell ⟨g6, 8, none⟩ (.int .i64 n)) := (Below.refl g6 w8).setCell (p := ⟨g6, 8, none⟩) (Nat.le_refl g6) _
          have ho1 : OwnB (w8.setCell ⟨g6, 8, none⟩ (.int .i64 n)) (w.heap.size + 1) ⟨A', cA', U', cu', D', cd', C', cc'⟩ ⟨n', f', pos', sp', gap', hold', nu', up', nd', dn', nc', car', fl', dir', op'⟩ := ownB_off (p := ⟨g6, 8, none⟩) (off_box HB8.out HOW8.out) HOW8.out
          have HE := Lib.hid (drawn_end (v := ⟨A', cA', U', cu', D', cd', C', cc'⟩) (b := ⟨n', f', pos', sp', gap', hold', nu', up', nd', dn', nc', car', n, dir', op'⟩) hgl ((HRD8.out.below hbl (by omega)).mono (Q' := Q + 10000) (by omega)) (HO8.out.trans ⟨hbl.os, hbl.tape, hbl.output, hbl.size, fun k hk _ => hbl.block k (by omega)⟩) (⟨ho1.h, ho1.k, ho1.hu, ho1.hd, ho1.hc⟩ : OwnB _ (w.heap.size + 1) ⟨A', cA', U', cu', D', cd', C', cc'⟩ ⟨n', f', pos', sp', gap', hold', nu', up', nd', dn', nc', car', n, dir', op'⟩).read (fun k hk => own_off' ho1 (by omega)) (HU.out.mono (by omega)))
          clear hbl ho1
          simp only [sets, putL, List.foldl_cons, List.foldl_nil] at HE
          go_wp2
          refine bodyPost_ret (v := .agg #[.slice A' n' cA', .int .i64 pos', .int .i64 sp', .int .i64 gap', .int .i64 hold', .slice U' nu' cu', .slice D' nd' cd', .slice C' nc' cc', .int .i64 n, .int .i64 dir', .bool op']) (by simp [results, Tryz.results30, go_sem, c4, c6]) rfl ⟨⟨A', cA', U', cu', D', cd', C', cc'⟩, ⟨n', f', pos', sp', gap', hold', nu', up', nd', dn', nc', car', n, dir', op'⟩, rfl, ?_⟩
          with_reducible exact HE.out
        · have hnc : nc' ≤ 8 := HU.out.2.2.2
          have hal := (Below.refl w8.heap.size w8).alloc (Nat.le_refl _) (.cells #[.bool false] 4)
          have HOWa := Lib.hid (ownB_below HOW8.out hal)
          have HBa := Lib.hid (HB8.out.below hal)
          have HXa := Lib.hid (HX8.out.below hal)
          have HOa := Lib.hid (HO8.out.alloc (by omega) (.cells #[.bool false] 4))
          have HRDa := Lib.hid (HRD8.out.alloc (.cells #[.bool false] 4))
          have HN6 := Lib.hid (own_block_ne (m := nc') (k := cc') (offB HBa.out HOWa.out.k.c))
          have HN4 := Lib.hid (own_block_ne (m := nc') (k := cc') (own_off' HOWa.out (g := w.heap.size) (by omega)).c)
          clear hal
          go_wp2_with (at_builtin; refine append_bool _ rfl _ _ rfl rfl HOWa.out.k.c w8.heap.size false rfl (by simp) (by omega) (by simp; omega) ?_; intro A3 c3 w9 hr9 hg9; have HR9 := Lib.hid hr9; have HG9 := Lib.hid hg9; clear hr9 hg9; have HB9 := Lib.hid (HBa.out.keptO HG9.out HN6.out); have HX9 := Lib.hid (HXa.out.keptO HG9.out HN4.out); have c9 := HB9.out.bx.cells; have f9 := HB9.out.bx.free; have d9 := HX9.out.bx.cells; have e9 := HX9.out.bx.free; simp only [bcells, Bv.none, Bld.none] at c9 d9)
          have hA9 := HOWa.out.h.grown_apart HG9.out HOWa.out.hc
          have hU9 := HOWa.out.k.u.grown_apart HG9.out HOWa.out.k.uc
          have hD9 := HOWa.out.k.d.grown_apart HG9.out HOWa.out.k.dc
          have hRB : ReadB w9 w9.heap.size ⟨A', cA', U', cu', D', cd', A3, c3⟩ ⟨n', f', pos', sp', gap', hold', nu', up', nd', dn', nc' + 1, snocB car' nc' false, fl', dir', op'⟩ := ⟨hA9.ints, hU9.bools, hD9.bools, HR9.out.bools, hA9.none_cap', hU9.none_cap', hD9.none_cap', HR9.out.none_cap'⟩
          have hof6 : Off g6 ⟨A', cA', U', cu', D', cd', A3, c3⟩ := ⟨offI HB9.out hA9, offB HB9.out hU9, offB HB9.out hD9, offB HB9.out HR9.out⟩
          have hof4 : ∀ k, k ≤ w.heap.size → Off k ⟨A', cA', U', cu', D', cd', A3, c3⟩ := fun k hk => ⟨fun x hx => by have := (hA9.place x hx).1; omega, fun x hx => by have := (hU9.place x hx).1; omega, fun x hx => by have := (hD9.place x hx).1; omega, fun x hx => by have := (HR9.out.place x hx).1; omega⟩
          have hgr : ∀ k, (Value.slice C' nc' cc').ownBlock = some k → w.heap.size + 1 ≤ k := HOWa.out.k.c.own
          have hrd9 : Reads w9 g (Q + 10000) := (HRDa.out.grown HG9.out (base := w.heap.size + 1) (by omega) hgr).mono (by omega)
          have ho9 : Only w.heap.size g w w9 := HOa.out.grown HG9.out (by simp; omega) (by intro k hk; left; have := hgr k hk; omega)
          have hbl : Below g6 w9 (w9.setCell ⟨g6, 7, none⟩ (.slice A3 (nc' + 1) c3)) := (Below.refl g6 w9).setCell (p := ⟨g6, 7, none⟩) (Nat.le_refl g6) _
          have hR10 : ReadB (w9.setCell ⟨g6, 7, none⟩ (.slice A3 (nc' + 1) c3)) (w9.setCell ⟨g6, 7, none⟩ (.slice A3 (nc' + 1) c3)).heap.size ⟨A', cA', U', cu', D', cd', A3, c3⟩ ⟨n', f', pos', sp', gap', hold', nu', up', nd', dn', nc' + 1, snocB car' nc' false, fl', dir', op'⟩ := by
            have := hRB.off (p := ⟨g6, 7, none⟩) (x := .slice A3 (nc' + 1) c3) hof6
            rw [World.size_setCell]; exact this
          have HE := Lib.hid (drawn_end (v := ⟨A', cA', U', cu', D', cd', A3, c3⟩) (b := ⟨n', f', pos', sp', gap', hold', nu', up', nd', dn', nc' + 1, snocB car' nc' false, fl', dir', op'⟩) hgl (hrd9.below hbl (by omega)) (ho9.trans ⟨hbl.os, hbl.tape, hbl.output, hbl.size, fun k hk _ => hbl.block k (by omega)⟩) hR10 hof4 (⟨by have := HU.out.1; simp only at this ⊢; omega, by have := HU.out.2.1; simp only at this ⊢; omega, by have := HU.out.2.2.1; simp only at this ⊢; omega, by simp only; omega⟩))
          clear hA9 hU9 hD9 hRB hof6 hof4 hgr hrd9 ho9 hbl hR10
          simp only [sets, putL, List.foldl_cons, List.foldl_nil] at HE
          go_wp2
          refine bodyPost_ret (v := .agg #[.slice A' n' cA', .int .i64 pos', .int .i64 sp', .int .i64 gap', .int .i64 hold', .slice U' nu' cu', .slice D' nd' cd', .slice A3 ((nc' + 1 : Nat) : Nat) c3, .int .i64 fl', .int .i64 dir', .bool op']) (by simp [results, Tryz.results30, go_sem, d9, c9]) rfl ⟨⟨A', cA', U', cu', D', cd', A3, c3⟩, ⟨n', f', pos', sp', gap', hold', nu', up', nd', dn', nc' + 1, snocB car' nc' false, fl', dir', op'⟩, rfl, ?_⟩
          with_reducible exact HE.out
        · have hbl : Below g6 w8 ((w8.setCell ⟨g6, 3, none⟩ (.int .i64 2)).setCell ⟨g6, 2, none⟩ (.int .i64 1)) := ((Below.refl g6 w8).setCell (p := ⟨g6, 3, none⟩) (Nat.le_refl g6) _).setCell (p := ⟨g6, 2, none⟩) (Nat.le_refl g6) _
          have ho1 : OwnB ((w8.setCell ⟨g6, 3, none⟩ (.int .i64 2)).setCell ⟨g6, 2, none⟩ (.int .i64 1)) (w.heap.size + 1) ⟨A', cA', U', cu', D', cd', C', cc'⟩ ⟨n', f', pos', sp', gap', hold', nu', up', nd', dn', nc', car', fl', dir', op'⟩ := ownB_off (p := ⟨g6, 2, none⟩) (off_box HB8.out HOW8.out) (ownB_off (p := ⟨g6, 3, none⟩) (off_box HB8.out HOW8.out) HOW8.out)
          have HE := Lib.hid (drawn_end (v := ⟨A', cA', U', cu', D', cd', C', cc'⟩) (b := ⟨n', f', pos', 1, 2, hold', nu', up', nd', dn', nc', car', fl', dir', op'⟩) hgl ((HRD8.out.below hbl (by omega)).mono (Q' := Q + 10000) (by omega)) (HO8.out.trans ⟨hbl.os, hbl.tape, hbl.output, hbl.size, fun k hk _ => hbl.block k (by omega)⟩) (⟨ho1.h, ho1.k, ho1.hu, ho1.hd, ho1.hc⟩ : OwnB _ (w.heap.size + 1) ⟨A', cA', U', cu', D', cd', C', cc'⟩ ⟨n', f', pos', 1, 2, hold', nu', up', nd', dn', nc', car', fl', dir', op'⟩).read (fun k hk => own_off' ho1 (by omega)) (HU.out.mono (by omega)))
          clear hbl ho1
          simp only [sets, putL, List.foldl_cons, List.foldl_nil] at HE
          go_wp2
          refine bodyPost_ret (v := .agg #[.slice A' n' cA', .int .i64 pos', .int .i64 1, .int .i64 2, .int .i64 hold', .slice U' nu' cu', .slice D' nd' cd', .slice C' nc' cc', .int .i64 fl', .int .i64 dir', .bool op']) (by simp [results, Tryz.results30, go_sem, c4, c6]) rfl ⟨⟨A', cA', U', cu', D', cd', C', cc'⟩, ⟨n', f', pos', 1, 2, hold', nu', up', nd', dn', nc', car', fl', dir', op'⟩, rfl, ?_⟩
          with_reducible exact HE.out
end Go.Proofs.YthkpikkjgggimaaGreatDoor

namespace Go.Proofs.YthkpikkjgggimaaGreatDoor
open Go.RowKit
set_option linter.unusedVariables false
set_option linter.unusedSimpArgs false

/-- What a drawing of a building for a law leaves. -/
def DrawnA (w : World) (e : Ending) (w' : World) : Prop := ∃ v b, e = .returned (bval v b) ∧ ReadB w' w'.heap.size v b ∧ b.Upto 9 ∧ Below w.heap.size w w'
/-- The building is stored into the box of the result. -/
theorem drawn_last {w w2 : World} {v : Bv} {b : Bld} (hb : Below w.heap.size w w2) (hr : ReadB w2 w2.heap.size v b) (hoff : Off w.heap.size v) :
    ReadB (sets w2 (putL w.heap.size v b)) (sets w2 (putL w.heap.size v b)).heap.size v b ∧ Below w.heap.size w (sets w2 (putL w.heap.size v b)) := by
  refine ⟨?_, sets_below _ hb (fun q hq => by rw [putL_block q hq]; exact Nat.le_refl _)⟩
  rw [sets_size]
  exact readB_sets _ hr (fun q hq => by rw [putL_block q hq]; exact hoff)
theorem below_grown {w w1 w2 : World} {g : Nat} (hb : Below w.heap.size w w1) (hg : w1.grownBy w2 (some g)) (hgl : w.heap.size ≤ g) : Below w.heap.size w w2 :=
  hb.grown hg hb.size (by intro b e; cases e; exact hgl)

end Go.Proofs.YthkpikkjgggimaaGreatDoor

namespace Go.Proofs.YthkpikkjgggimaaGreatDoor
open Go.RowKit
set_option linter.unusedVariables false
set_option linter.unusedSimpArgs false

theorem ReadB.picked {W W' : World} {B g : Nat} {v : Bv} {b : Bld} (r : ReadB W B v b) (hB : B ≤ W.heap.size) (hg : W.grownBy W' (some g)) (h : Off g v) : ReadB W' B v b := by
  refine ⟨?_, ?_, ?_, ?_, r.hn, r.un, r.dn, r.cn⟩
  · intro hn
    obtain ⟨b', off, hA, hb, hc⟩ := r.h hn
    exact ⟨b', off, hA, hb, fun i hi => (World.cell?_of_block (hg.block b' (by omega) (by intro e; cases e; exact h.a _ hA rfl))).trans (hc i hi)⟩
  · intro hn
    obtain ⟨b', off, hA, hb, hc⟩ := r.u hn
    exact ⟨b', off, hA, hb, fun i hi => (World.cell?_of_block (hg.block b' (by omega) (by intro e; cases e; exact h.u _ hA rfl))).trans (hc i hi)⟩
  · intro hn
    obtain ⟨b', off, hA, hb, hc⟩ := r.d hn
    exact ⟨b', off, hA, hb, fun i hi => (World.cell?_of_block (hg.block b' (by omega) (by intro e; cases e; exact h.d _ hA rfl))).trans (hc i hi)⟩
  · intro hn
    obtain ⟨b', off, hA, hb, hc⟩ := r.c hn
    exact ⟨b', off, hA, hb, fun i hi => (World.cell?_of_block (hg.block b' (by omega) (by intro e; cases e; exact h.c _ hA rfl))).trans (hc i hi)⟩
theorem drawn_last' {w w2 : World} {v : Bv} {b : Bld} (hb : Below w.heap.size w w2) (hr : ReadB w2 w2.heap.size v b) (hoff : Off w.heap.size v) :
    ReadB (sets w2 (putL w.heap.size v b)) (sets w2 (putL w.heap.size v b)).heap.size v b ∧ Below w.heap.size w (sets w2 (putL w.heap.size v b)) := drawn_last hb hr hoff

/-- What DrawBuildTick leaves. -/
def DrawnT (w : World) (e : Ending) (w' : World) : Prop := ∃ v b bl, e = .returned (.tuple #[bval v b, .bool bl]) ∧ ReadB w' w'.heap.size v b ∧ b.Upto 9 ∧ Below w.heap.size w w'
end Go.Proofs.YthkpikkjgggimaaGreatDoor

namespace Go.Proofs.YthkpikkjgggimaaGreatDoor
open Go.RowKit
set_option linter.unusedVariables false
set_option linter.unusedSimpArgs false

/-- A value is a text of at most m bytes. -/
def ShortT (m : Nat) (v : Value) : Prop := ∃ t : ByteArray, v = .string t ∧ t.size ≤ m
theorem lit_cellS {w w' : World} {g z : Nat} {xs : Array Value} {v : Value} (hg : (w.alloc (.cells xs 9)).grownBy w' (some g)) (hgl : g < w.heap.size) (hv : xs[z]? = some v) : w'.cell? ⟨w.heap.size, z, none⟩ = some v := by
  refine hg.cell ?_ (by simp; omega)
  rw [cell_of_row _ w.heap.size z xs 9 (0, 0) (by show (w.heap.push _)[w.heap.size]? = _; simp)]
  exact hv
theorem size_mkL (l : List UInt8) : (ByteArray.mk l.toArray).size = l.length := by show l.toArray.size = _; simp
theorem list_get {l : List (List UInt8)} {m : Nat} (hm : ∀ x ∈ l, x.length ≤ m) {z : Nat} (hz : z < l.length) : ∃ t : ByteArray, ((l.map fun x => Value.string ⟨x.toArray⟩).toArray)[z]? = some (.string t) ∧ t.size ≤ m := by
  refine ⟨⟨l[z].toArray⟩, by simp [hz], ?_⟩
  rw [size_mkL]
  exact hm _ (List.getElem_mem hz)
/-- The words from which lines are drawn. -/
def words1 : List (List UInt8) := [[119, 104, 101, 114, 101], [97, 116], [115, 112, 101, 101, 100], [100, 111, 111, 114], [99, 97, 108, 108, 115], [102, 108, 111, 111, 114, 115], [113, 117, 105, 101, 116], [114, 101, 115, 116]]
def words2 : List (List UInt8) := [[], [117, 112], [117, 112, 32, 48, 49], [99, 97, 114, 32, 49, 32, 50], [116, 105, 99, 107, 32, 49], [32, 116, 105, 99, 107], [100, 111, 119, 110, 32, 120], [98, 108, 111, 99, 107]]
def words3 : List (List UInt8) := [[117, 112], [100, 111, 119, 110], [99, 97, 114]]
def cellsT (l : List (List UInt8)) : Array Value := (l.map fun x => Value.string ⟨x.toArray⟩).toArray

/-- What the operations of l20Line's region leave. -/
def LiR (base g gb n : Nat) (sl : Value) : Nat → Value → World → Prop
  | 0, v, W => ∃ b, v = .slice (some ⟨b, 0, none⟩) 3 3 ∧ base ≤ b ∧ W.heap[b]? = some (.cells (cellsT words3) 9 (0, 0))
  | 1, v, _ => v = .pointer (some ⟨g, 0, none⟩)
  | 2, v, _ => ∃ x : Nat, v = .int .i64 x ∧ x < 3
  | 3, v, W => ∃ b x : Nat, v = .pointer (some ⟨b, x, none⟩) ∧ x < 3 ∧ base ≤ b ∧ W.heap[b]? = some (.cells (cellsT words3) 9 (0, 0))
  | 4, v, _ => ShortT 4 v
  | 5, v, _ => ShortT 5 v
  | 6, v, _ => v = .pointer (some ⟨g, 0, none⟩)
  | 7, v, _ => v = .pointer (some ⟨gb, 0, none⟩)
  | 8, v, _ => v = sl
  | 9, v, _ => v = .int .i64 n
  | 10, v, _ => v = .int .i64 ((n : Int) + 1)
  | 11, v, _ => ∃ x : Nat, v = .int .i64 x ∧ x ≤ 9
  | 12, v, _ => ShortT 10 v
  | 13, v, _ => ShortT 15 v
  | 14, v, _ => ShortT 15 v
  | _, _, _ => True
theorem LiR.keep {base g gb n : Nat} {sl : Value} (hgb : g < base) {W W' : World} (hb : W.grownBy W' (some g)) : ∀ j v, LiR base g gb n sl j v W → LiR base g gb n sl j v W' := by
  have key : ∀ b xs, base ≤ b → W.heap[b]? = some (.cells xs 9 (0, 0)) → W'.heap[b]? = some (.cells xs 9 (0, 0)) := by
    intro b xs h1 h2
    refine (hb.block b ?_ (by intro e; cases e; omega)).trans h2
    rcases Nat.lt_or_ge b W.heap.size with hlt | hge
    · exact hlt
    · rw [Array.getElem?_eq_none hge] at h2; cases h2
  intro j v h
  unfold LiR at h ⊢
  split at h
  all_goals first
    | with_reducible exact h
    | (obtain ⟨b, h1, h2, h3⟩ := h; exact ⟨b, h1, h2, key b _ h2 h3⟩)
    | (obtain ⟨b, x, h1, h2, h3, h4⟩ := h; exact ⟨b, x, h1, h2, h3, key b _ h3 h4⟩)

/-- What l20Line leaves. -/
def DrawnW (Q : Nat) (w : World) (g : Nat) (e : Ending) (w' : World) : Prop := ∃ s : ByteArray, e = .returned (.string s) ∧ s.size ≤ 30 ∧ Reads w' g Q ∧ w.grownBy w' (some g)

set_option maxRecDepth 100000 in
set_option maxHeartbeats 6400000 in
theorem l20Line_any {w : World} {g Q : Nat} {v : Bv} {b : Bld} (hQ : Q + 100 ≤ 1000000) (hn : b.n ≤ 9) (r : Reads w g Q) :
    Calls Tryz.prog 32 #[.pointer (some ⟨g, 0, none⟩), bval v b] w (DrawnW (Q + 100) w g) := by
  have hgl := r.lt
  have HX0 := Lib.hid (Bx.new w (bcells v b) 36)
  have HR0 := Lib.hid (r.alloc (.cells (bcells v b) 36))
  have HG0 := Lib.hid (World.grownBy_alloc w (.cells (bcells v b) 36) (some g))
  clear r
  unfold bval bcells at *
  unfold DrawnW
  go_enter Tryz.func32, Tryz.ntmps32
  go_wp2_with fail
  refine (HR0.out.pick 8 (by omega) (by omega)).mono ?_
  rintro e w1 ⟨x1, rfl, hp1, hr1, hg1⟩
  obtain ⟨p1, p2⟩ := picked_lit0 hp1 (by omega)
  have HX1 := Lib.hid (HX0.out.kept hg1 (by omega))
  have HR1 := Lib.hid hr1
  have HG1 := Lib.hid (HG0.out.trans hg1)
  have hs1 : w.heap.size + 1 ≤ w1.heap.size := by have := hg1.size; simpa using this
  clear hp1 hr1 hg1 HX0 HR0 HG0
  rcases (by omega : x1 = 0 ∨ x1 = 1 ∨ x1 = 2 ∨ x1 = 3 ∨ x1 = 4 ∨ (5 ≤ x1)) with rfl | rfl | rfl | rfl | rfl | h5
  · go_wp2_with fail
    refine ((HR1.out.alloc (.cells (cellsT words1) 9)).pick 8 (by omega) (by omega)).mono ?_
    rintro e w2 ⟨x2, rfl, hp2, hr2, hg2⟩
    obtain ⟨q1, q2⟩ := picked_lit0 hp2 (by omega)
    obtain ⟨z, rfl⟩ := Int.eq_ofNat_of_zero_le q1
    obtain ⟨t, ht, hts⟩ := list_get (l := words1) (m := 7) (by decide) (z := z) (by show z < 8; omega)
    have cc := lit_cellS hg2 (by omega) ht
    have HR2 := Lib.hid hr2
    have HG2 := Lib.hid (HG1.out.trans ((World.grownBy_alloc w1 (.cells (cellsT words1) 9) (some g)).trans hg2))
    clear hp2 hr2 hg2 HR1 HG1 ht
    go_wp2
    go_ret
    exact ⟨t, rfl, by omega, HR2.out.mono (by omega), HG2.out⟩
  · go_wp2_with fail
    refine ((HR1.out.alloc (.cells (cellsT words2) 9)).pick 8 (by omega) (by omega)).mono ?_
    rintro e w2 ⟨x2, rfl, hp2, hr2, hg2⟩
    obtain ⟨q1, q2⟩ := picked_lit0 hp2 (by omega)
    obtain ⟨z, rfl⟩ := Int.eq_ofNat_of_zero_le q1
    obtain ⟨t, ht, hts⟩ := list_get (l := words2) (m := 7) (by decide) (z := z) (by show z < 8; omega)
    have cc := lit_cellS hg2 (by omega) ht
    have HR2 := Lib.hid hr2
    have HG2 := Lib.hid (HG1.out.trans ((World.grownBy_alloc w1 (.cells (cellsT words2) 9) (some g)).trans hg2))
    clear hp2 hr2 hg2 HR1 HG1 ht
    go_wp2
    go_ret
    exact ⟨t, rfl, by omega, HR2.out.mono (by omega), HG2.out⟩
  · go_wp2
    go_ret
    exact ⟨_, rfl, by decide, HR1.out.mono (by omega), HG1.out⟩
  · go_wp2
    go_ret
    exact ⟨_, rfl, by decide, HR1.out.mono (by omega), HG1.out⟩
  · go_wp2
    go_ret
    exact ⟨_, rfl, by decide, HR1.out.mono (by omega), HG1.out⟩
  · have e0 : (x1 == 0) = false := by simp; omega
    have e1 : (x1 == 1) = false := by simp; omega
    have e2 : (x1 == 2) = false := by simp; omega
    have e3 : (x1 == 3) = false := by simp; omega
    have e4 : (x1 == 4) = false := by simp; omega
    go_wp2_with fail
    rename_i hK
    have hgw : g < w1.heap.size := by omega
    refine wp_region_any (by kernel_rfl) ?_
    refine wpAny_typed 15 (fun i => (#[25, 26, 27, 28, 29, 30, 31, 32, 33, 34, 35, 36, 37, 38, 4] : Array Nat).getD i 0) (fun _ => false) (LiR w1.heap.size g w.heap.size b.n (.slice v.A b.n v.c)) (fun j W => Reads W g (Q + 20 + j) ∧ Only w1.heap.size g w1 W ∧ Bx W w.heap.size #[.slice v.A b.n v.c, .int .i64 b.pos, .int .i64 b.sp, .int .i64 b.gap, .int .i64 b.hold, .slice v.U b.nu v.cu, .slice v.D b.nd v.cd, .slice v.C b.nc v.cc, .int .i64 b.fl, .int .i64 b.dir, .bool b.op]) rfl 39 rfl (by kernel_rfl) ⟨(HR1.out.drewN 1).mono (by omega), (Only.refl _ _ _).trans ⟨rfl, by simp, rfl, Nat.le_refl _, fun _ _ _ => rfl⟩, HX1.out.drewN 1⟩ ?_ ?_
    · intro a W U hR hG
      obtain ⟨F, hf, ha⟩ := U.form [false, false, false, false, true, false, false, false, false, false, false, false, false, false, false, false, false, false, false, false, false, false, false, false, false, true, true, true, true, true, true, true, true, true, true, true, true, true, true] rfl (by decide)
      have h14 := hR 14 (by omega)
      have f4 : a.tmps.getD 4 undef = F 4 := hf 14 (by omega)
      obtain ⟨t, ht, hts⟩ : ShortT 15 (a.tmps.getD 4 undef) := h14
      have h2 : F 4 = .string t := f4.symm.trans ht
      simp only [letters, cond_true, cond_false, Nat.reduceAdd, h2] at ha
      obtain ⟨kk, hkk, hg1, hg2, -⟩ := hG
      have HB := Lib.hid (HG1.out.trans hg2.grow)
      have HRD := Lib.hid (hg1.mono (Q' := Q + 100) (by omega))
      have HT := Lib.hid (show t.size ≤ 30 by omega)
      clear hR hf U f4 h2 hg2 hg1 ht hts
      subst ha
      refine hK _ _ ?_
      go_wp2
      go_ret
      exact ⟨t, rfl, HT.out, HRD.out, HB.out⟩
    · intro i' o ho a W k' U hG hk' hd
      have hlt : i' < 15 := (Array.getElem?_eq_some_iff.1 ho).1
      have hu0 := U.other 0 (by decide)
      have hu3 := U.other 3 (by decide)
      have t0 : a.tmps[0]?.getD undef = .pointer (some ⟨g, 0, none⟩) := by simpa using hu0
      have t3 : a.tmps[3]?.getD undef = .pointer (some ⟨w.heap.size, 0, none⟩) := by simpa using hu3
      obtain ⟨hG1, hG2, hG3⟩ := hG
      have hG1' := hG1.mono (show Q + 20 + k' ≤ Q + 20 + (k' + 1) by omega)
      have c3 := hG3.cells
      rcases (by omega : i' = 0 ∨ i' = 1 ∨ i' = 2 ∨ i' = 3 ∨ i' = 4 ∨ i' = 5 ∨ i' = 6 ∨ i' = 7 ∨ i' = 8 ∨ i' = 9 ∨ i' = 10 ∨ i' = 11 ∨ i' = 12 ∨ i' = 13 ∨ i' = 14) with rfl | rfl | rfl | rfl | rfl | rfl | rfl | rfl | rfl | rfl | rfl | rfl | rfl | rfl | rfl
      all_goals (refine wpOp_of ho (by cases ho; rfl) ?_; cases ho)
      · have hba := World.grownBy_alloc W (.cells (cellsT words3) 9) (some g)
        have hbl := (Below.refl W.heap.size W).alloc (Nat.le_refl _) (.cells (cellsT words3) 9)
        unfold Oper.wp
        simp [go_sem, Act.eval]
        refine ⟨⟨hG1'.alloc _, hG2.alloc (by have := hG2.size; omega) _, hG3.below hbl hG3.lt⟩, fun j v _ h => h.keep hgw hba, .inl ⟨rfl, _, rfl, ⟨W.heap.size, rfl, hG2.size, ?_⟩⟩⟩
        show (W.heap.push _)[W.heap.size]? = _
        simp [cellsT, words3]
      · unfold Oper.wp
        simp [go_sem, Act.eval, t0]
        exact ⟨⟨hG1', hG2, hG3⟩, fun j v _ h => h, .inl ⟨rfl, _, rfl, rfl⟩⟩
      · have h1 := hd ⟨1, .data⟩ (by simp) rfl
        have u4 : a.tmps[26]?.getD undef = .pointer (some ⟨g, 0, none⟩) := by simpa [LiR] using h1
        unfold Oper.wp
        simp [go_sem, Act.eval, u4]
        refine (hG1.pick 3 (by omega) (by omega)).mono ?_
        rintro e w' ⟨x, rfl, hp, hr, hgr⟩
        obtain ⟨q1, q2⟩ := picked_lit0 hp (by omega)
        obtain ⟨z, rfl⟩ := Int.eq_ofNat_of_zero_le q1
        exact ⟨⟨hr, hG2.picked hgr hG2.size, hG3.kept hgr (by omega)⟩, fun j v _ h => h.keep hgw hgr, .inl ⟨rfl, _, rfl, ⟨z, rfl, by omega⟩⟩⟩
      · obtain ⟨b8, h3, hb1, hb2⟩ := hd ⟨0, .data⟩ (by simp) rfl
        obtain ⟨x, h5, hx⟩ := hd ⟨2, .data⟩ (by simp) rfl
        have u3 : a.tmps[25]?.getD undef = .slice (some ⟨b8, 0, none⟩) 3 3 := by simpa using h3
        have u5 : a.tmps[27]?.getD undef = .int .i64 x := by simpa using h5
        have hx4 : (x : Int) < 3 := by omega
        unfold Oper.wp
        simp [go_sem, Act.eval, u3, u5, hx4]
        exact ⟨⟨hG1', hG2, hG3⟩, fun j v _ h => h, .inl ⟨rfl, _, rfl, ⟨b8, x, rfl, hx, hb1, hb2⟩⟩⟩
      · obtain ⟨b8, x, h6, hx, hb1, hb2⟩ := hd ⟨3, .data⟩ (by simp) rfl
        obtain ⟨t, ht, hts⟩ := list_get (l := words3) (m := 4) (by decide) (z := x) hx
        have u6 : a.tmps[28]?.getD undef = .pointer (some ⟨b8, x, none⟩) := by simpa using h6
        have hc := (cell_of_row W b8 x (cellsT words3) 9 (0, 0) hb2).trans ht
        unfold Oper.wp
        simp [go_sem, Act.eval, u6, hc]
        exact ⟨⟨hG1', hG2, hG3⟩, fun j v _ h => h, .inl ⟨rfl, _, rfl, ⟨t, rfl, hts⟩⟩⟩
      · obtain ⟨t2, h2, hl2⟩ := hd ⟨4, .data⟩ (by simp) rfl
        have u2 : a.tmps[29]?.getD undef = .string t2 := by simpa using h2
        have hl : ¬ 9223372036854775807 < t2.size + 1 := by omega
        unfold Oper.wp
        simp [go_sem, Act.eval, u2, hl]
        exact ⟨⟨hG1', hG2, hG3⟩, fun j v _ h => h, .inl ⟨rfl, _, rfl, ⟨_, rfl, by rw [ByteArray.size_append]; show t2.size + 1 ≤ 5; omega⟩⟩⟩
      · unfold Oper.wp
        simp [go_sem, Act.eval, t0]
        exact ⟨⟨hG1', hG2, hG3⟩, fun j v _ h => h, .inl ⟨rfl, _, rfl, rfl⟩⟩
      · unfold Oper.wp
        simp [go_sem, Act.eval, t3]
        exact ⟨⟨hG1', hG2, hG3⟩, fun j v _ h => h, .inl ⟨rfl, _, rfl, rfl⟩⟩
      · have h1 := hd ⟨7, .data⟩ (by simp) rfl
        have u4 : a.tmps[32]?.getD undef = .pointer (some ⟨w.heap.size, 0, none⟩) := by simpa [LiR] using h1
        unfold Oper.wp
        simp [go_sem, Act.eval, u4, c3]
        exact ⟨⟨hG1', hG2, hG3⟩, fun j v _ h => h, .inl ⟨rfl, _, rfl, rfl⟩⟩
      · have h1 := hd ⟨8, .data⟩ (by simp) rfl
        have u4 : a.tmps[33]?.getD undef = .slice v.A b.n v.c := by simpa [LiR] using h1
        unfold Oper.wp
        simp [go_sem, Act.eval, u4]
        exact ⟨⟨hG1', hG2, hG3⟩, fun j v _ h => h, .inl ⟨rfl, _, rfl, rfl⟩⟩
      · have h1 := hd ⟨9, .data⟩ (by simp) rfl
        have u4 : a.tmps[34]?.getD undef = .int .i64 b.n := by simpa [LiR] using h1
        have hw : IntKind.i64.wrap ((b.n : Int) + 1) = (b.n : Int) + 1 := IntWalk.i64_in _ (by omega)
        unfold Oper.wp
        simp [go_sem, Act.eval, u4, hw]
        exact ⟨⟨hG1', hG2, hG3⟩, fun j v _ h => h, .inl ⟨rfl, _, rfl, rfl⟩⟩
      · have h1 := hd ⟨6, .data⟩ (by simp) rfl
        have h2 := hd ⟨10, .data⟩ (by simp) rfl
        have u4 : a.tmps[31]?.getD undef = .pointer (some ⟨g, 0, none⟩) := by simpa [LiR] using h1
        have u5 : a.tmps[35]?.getD undef = .int .i64 ((b.n : Int) + 1) := by simpa [LiR] using h2
        unfold Oper.wp
        simp [go_sem, Act.eval, u4, u5]
        refine (hG1.pick ((b.n : Int) + 1) (by omega) (by omega)).mono ?_
        rintro e w' ⟨x, rfl, hp, hr, hgr⟩
        obtain ⟨q1, q2⟩ := picked_lit0 hp (by omega)
        obtain ⟨z, rfl⟩ := Int.eq_ofNat_of_zero_le q1
        exact ⟨⟨hr, hG2.picked hgr hG2.size, hG3.kept hgr (by omega)⟩, fun j v _ h => h.keep hgw hgr, .inl ⟨rfl, _, rfl, ⟨z, rfl, by omega⟩⟩⟩
      · obtain ⟨x, h5, hx⟩ := hd ⟨11, .data⟩ (by simp) rfl
        have u5 : a.tmps[36]?.getD undef = .int .i64 x := by simpa using h5
        unfold Oper.wp
        simp [go_sem, Act.eval, u5]
        refine (l1Number_any (i := x) (by omega) W).mono ?_
        rintro e w' ⟨rfl, hb⟩
        have hl := decDigits_short x (by omega)
        exact ⟨⟨hG1'.below hb hG1.lt, hG2.grown (grown_call g hb) hG2.size (fun k e => .inr (by cases e; rfl)), hG3.below hb hG3.lt⟩, fun j v _ h => h.keep hgw (grown_call g hb), .inl ⟨rfl, _, rfl, ⟨_, rfl, by rw [size_mkL]; omega⟩⟩⟩
      · obtain ⟨t2, h2, hl2⟩ := hd ⟨5, .data⟩ (by simp) rfl
        obtain ⟨t7, h7, hl7⟩ := hd ⟨12, .data⟩ (by simp) rfl
        have u2 : a.tmps[30]?.getD undef = .string t2 := by simpa using h2
        have u7 : a.tmps[37]?.getD undef = .string t7 := by simpa using h7
        have hl : ¬ 9223372036854775807 < t2.size + t7.size := by omega
        unfold Oper.wp
        simp [go_sem, Act.eval, u2, u7, hl]
        exact ⟨⟨hG1', hG2, hG3⟩, fun j v _ h => h, .inl ⟨rfl, _, rfl, ⟨_, rfl, by rw [ByteArray.size_append]; omega⟩⟩⟩
      · obtain ⟨t2, h2, hl2⟩ := hd ⟨13, .data⟩ (by simp) rfl
        have u2 : a.tmps[38]?.getD undef = .string t2 := by simpa using h2
        unfold Oper.wp
        simp [go_sem, Act.eval, u2]
        exact ⟨⟨hG1', hG2, hG3⟩, fun j v _ h => h, .inl ⟨rfl, _, rfl, ⟨_, rfl, hl2⟩⟩⟩

/-- The box of the drawn building, the box of the result and the reader. -/
structure JG (w : World) (g g2 g6 B Q i18 : Nat) (v : Bv) (b : Bld) (L : Array Bool) (k : Nat) (W : World) : Prop where
  o : Below w.heap.size w W
  x6 : Bx W g6 (bcells v b)
  x2 : ∃ v0 b0, Bx W g2 (bcells v0 b0)
  r : ReadB W B v b
  hB : B ≤ W.heap.size
  rd : L.getD i18 false = false → Reads W g (Q + 1000 * k)
section
variable {w W W' : World} {g g2 g6 B Q i18 k : Nat} {v : Bv} {b : Bld} {L : Array Bool}
theorem JG.step (h : JG w g g2 g6 B Q i18 v b L k W) (i : Nat) (hi : i ≠ i18) : JG w g g2 g6 B Q i18 v b (L.setIfInBounds i true) (k + 1) W :=
  ⟨h.o, h.x6, h.x2, h.r, h.hB, fun hl => (h.rd (by rw [getD_set_ne false hi] at hl; exact hl)).mono (by omega)⟩
theorem JG.picked (h : JG w g g2 g6 B Q i18 v b L k W) (i : Nat) (hi : i ≠ i18) (hg : W.grownBy W' (some g)) (hr : Reads W' g (Q + 1000 * (k + 1))) (hwg : w.heap.size ≤ g) (h2 : g2 ≠ g) (h6 : g6 ≠ g) (hoff : Off g v) : JG w g g2 g6 B Q i18 v b (L.setIfInBounds i true) (k + 1) W' := by
  obtain ⟨v0, b0, h0⟩ := h.x2
  exact ⟨h.o.grown hg h.o.size (by intro b e; cases e; exact hwg), h.x6.kept hg h6, ⟨v0, b0, h0.kept hg h2⟩, h.r.picked h.hB hg hoff, Nat.le_trans h.hB hg.size, fun _ => hr⟩
theorem JG.stored (h : JG w g g2 g6 B Q i18 v b L k W) (hsz : i18 < L.size) (hwg : w.heap.size ≤ g2) (h2 : g6 ≠ g2) (hoff : Off g2 v) : JG w g g2 g6 B Q i18 v b (L.setIfInBounds i18 true) (k + 1) (sets W (putL g2 v b)) := by
  obtain ⟨v0, b0, h0⟩ := h.x2
  refine ⟨sets_below _ h.o (fun q hq => by rw [putL_block q hq]; exact hwg), sets_bx _ h.x6 (fun q hq => by rw [putL_block q hq]; exact Ne.symm h2), ⟨v, b, ?_⟩, readB_sets _ h.r (fun q hq => by rw [putL_block q hq]; exact hoff), by rw [sets_size]; exact h.hB, fun hl => ?_⟩
  · unfold bcells at h0; exact h0.put v b
  · rw [getD_set_self false hsz] at hl; cases hl
end

theorem unl {L : Array Bool} {j i : Nat} (h : L.getD j false = true → L.getD i false = true) (hi : L.getD i false = false) : L.getD j false = false := by
  cases hj : L.getD j false
  · rfl
  · rw [h hj] at hi; cases hi
/-- What DrawBuildLine leaves. -/
def DrawnL (w : World) (e : Ending) (w' : World) : Prop := ∃ v b s, e = .returned (.tuple #[bval v b, .string s]) ∧ ReadB w' w'.heap.size v b ∧ b.Upto 9 ∧ s.size ≤ 30 ∧ Below w.heap.size w w'
def LinR (base g g2 : Nat) (v : Bv) (b : Bld) : Nat → Value → World → Prop
  | 0, u, _ => u = bval v b
  | 1, u, _ => u = .pointer (some ⟨g, 0, none⟩)
  | 2, u, _ => u = bval v b
  | 3, u, _ => ShortT 30 u
  | 4, _, W => Bx W g2 (bcells v b)
  | 5, u, _ => ShortT 30 u
  | _, _, _ => True
theorem LinR_keep {base g g2 : Nat} {v : Bv} {b : Bld} {W W' : World} (hx : Bx W g2 (bcells v b) → Bx W' g2 (bcells v b)) : ∀ j u, LinR base g g2 v b j u W → LinR base g g2 v b j u W' := by
  intro j u h
  unfold LinR at h ⊢
  split at h
  all_goals first
    | with_reducible exact h
    | exact hx h

set_option maxRecDepth 100000 in
set_option maxHeartbeats 6400000 in
theorem DrawBuildLine_any {w : World} {B : Nat} {A : Option Addr} {n c : Nat} {h : Nat → Int} (hB : B ≤ w.heap.size) (hc : n ≤ c) (hs : Bytes w B A n h) :
    Calls Tryz.prog 27 #[.slice A n c] w (DrawnL w) := by
  have HX0 := Lib.hid (Bx.new w #[.slice none 0 0, .int .i64 0, .int .i64 0, .int .i64 0, .int .i64 0, .slice none 0 0, .slice none 0 0, .slice none 0 0, .int .i64 0, .int .i64 0, .bool false] 36)
  have HB0 := Lib.hid ((Below.refl w.heap.size w).alloc (Nat.le_refl _) (.cells #[.slice none 0 0, .int .i64 0, .int .i64 0, .int .i64 0, .int .i64 0, .slice none 0 0, .slice none 0 0, .slice none 0 0, .int .i64 0, .int .i64 0, .bool false] 36))
  have HS := Lib.hid (hs.below (HB0.out.mono hB))
  clear hs
  unfold DrawnL
  go_enter Tryz.func27, Tryz.ntmps27
  go_wp2_with fail
  refine (l20Open_any (Nat.le_trans hB (by simp)) hc HS.out).mono ?_
  rintro e w1 ⟨g, rfl, hgl, hr1, hb1⟩
  have hgl' : w.heap.size < g := by simp at hgl; omega
  have HX1 := Lib.hid (HX0.out.below hb1 HX0.out.lt)
  have HB1 := Lib.hid (HB0.out.trans (hb1.mono HB0.out.size))
  have HR1 := Lib.hid hr1
  have hs1 : w.heap.size + 1 ≤ w1.heap.size := by have := hb1.size; simpa using this
  clear hgl hb1 hr1 HX0 HB0 HS
  go_wp2_with fail
  refine (l20Building_any (by omega) (by omega) (by omega) HR1.out).mono ?_
  rintro e w2 ⟨v, b, rfl, hrb, hu, hr2, hg2, hoff⟩
  have hg1l := HR1.out.lt
  have hsz2 := hg2.size
  have HOg := Lib.hid (hoff g hg1l)
  have HOw := Lib.hid (hoff w.heap.size (by omega))
  have HU := Lib.hid hu
  have hgw2 : g < w2.heap.size := by omega
  have HG : Hid (JG w g w.heap.size w2.heap.size w2.heap.size (0 + 10000) 4 v b (Array.replicate 6 false) 0 (w2.alloc (.cells (bcells v b) 36)).drew) := by
    have hx2 := (HX1.out.kept hg2 (by omega)).alloc (.cells (bcells v b) 36)
    have hal := (Below.refl w2.heap.size w2).alloc (Nat.le_refl _) (.cells (bcells v b) 36)
    exact Lib.hid ⟨((below_grown HB1.out hg2 (by omega)).alloc (by omega) _).drew, (Bx.new w2 (bcells v b) _).drewN 1, ⟨Bv.none, Bld.none, hx2.drewN 1⟩, (hrb.below hal).drewN 1, by simp, fun _ => (hr2.alloc _).drewN 1⟩
  clear hrb hu hr2 hg2 hoff HX1 HB1 HR1
  simp only [bval, bcells] at HG ⊢
  go_wp2_with fail
  rename_i hK
  refine wp_region_any (by kernel_rfl) ?_
  refine wpAny_typedL 6 (fun i => (#[10, 11, 12, 13, 1000, 3] : Array Nat).getD i 0) (fun i => i == 4) (LinR (w2.heap.size + 1) g w.heap.size v b) (JG w g w.heap.size w2.heap.size w2.heap.size (0 + 10000) 4 v b) rfl 14 rfl (by kernel_rfl) HG.out ?_ ?_
  · intro a W U hR hG
    obtain ⟨f, hf, ha⟩ := U.form [false, false, false, true, false, false, false, false, false, false, true, true, true, true] rfl (by decide)
    obtain ⟨s3, h3, hn3⟩ := hR 5 (by omega)
    have hx2 := hR 4 (by omega)
    have e3 : a.tmps.getD 3 undef = f 3 := hf 5 (by omega)
    have h3' : f 3 = .string s3 := e3.symm.trans h3
    simp only [letters, cond_true, cond_false, Nat.reduceAdd, h3'] at ha
    obtain ⟨L, kk, hkk, _, _, hg⟩ := hG
    have HE := Lib.hid hg.r
    have HBL := Lib.hid hg.o
    have hBs := hg.hB
    have hx2' : Bx W w.heap.size (bcells v b) := hx2
    unfold bcells at hx2'
    have c2 := hx2'.cells
    clear hR hf U h3 e3 h3' hg hx2 hx2' HG
    subst ha
    refine hK _ _ ?_
    go_wp2
    obtain ⟨A', cA', U', cu', D', cd', C', cc'⟩ := v
    obtain ⟨n', f', pos', sp', gap', hold', nu', up', nd', dn', nc', car', fl', dir', op'⟩ := b
    simp only at c2
    refine bodyPost_ret (v := .tuple #[.agg #[.slice A' n' cA', .int .i64 pos', .int .i64 sp', .int .i64 gap', .int .i64 hold', .slice U' nu' cu', .slice D' nd' cd', .slice C' nc' cc', .int .i64 fl', .int .i64 dir', .bool op'], .string s3]) (by simp [results, Tryz.results27, go_sem, c2]) rfl ⟨_, _, s3, rfl, HE.out.more hBs, HU.out, hn3, HBL.out⟩
  · intro i' o ho L a W k' hLs hLi hLw U hG hk' hd
    have hlt : i' < 6 := (Array.getElem?_eq_some_iff.1 ho).1
    have h5 := U.other 5 (by decide)
    have t5 : a.tmps[5]?.getD undef = .pointer (some ⟨w2.heap.size, 0, none⟩) := by simpa using h5
    have c5 := hG.x6.cells
    unfold bcells at c5
    rcases (by omega : i' = 0 ∨ i' = 1 ∨ i' = 2 ∨ i' = 3 ∨ i' = 4 ∨ i' = 5) with rfl | rfl | rfl | rfl | rfl | rfl
    all_goals (refine wpOp_of ho (by cases ho; rfl) ?_; cases ho)
    · unfold Oper.wp
      simp [go_sem, Act.eval, t5, c5]
      exact ⟨hG.step 0 (by omega), fun j v _ h => h, .inl ⟨rfl, _, rfl, rfl⟩⟩
    · have h4 := U.other 4 (by decide)
      have t4 : a.tmps[4]?.getD undef = .pointer (some ⟨g, 0, none⟩) := by simpa using h4
      unfold Oper.wp
      simp [go_sem, Act.eval, t4]
      exact ⟨hG.step 1 (by omega), fun j v _ h => h, .inl ⟨rfl, _, rfl, rfl⟩⟩
    · unfold Oper.wp
      simp [go_sem, Act.eval, t5, c5]
      exact ⟨hG.step 2 (by omega), fun j v _ h => h, .inl ⟨rfl, _, rfl, rfl⟩⟩
    · have h1 := hd ⟨1, .data⟩ (by simp) rfl
      have h2 := hd ⟨2, .data⟩ (by simp) rfl
      have t11 : a.tmps[11]?.getD undef = .pointer (some ⟨g, 0, none⟩) := by simpa [LinR] using h1
      have t12 : a.tmps[12]?.getD undef = bval v b := by simpa [LinR] using h2
      have hrd := hG.rd (unl (hLw 4 3 ⟨_, rfl, ⟨3, .chain⟩, by simp, rfl, rfl⟩) hLi)
      unfold Oper.wp
      simp [go_sem, Act.eval, t11, t12]
      refine (l20Line_any (v := v) (b := b) (by omega) HU.out.1 hrd).mono ?_
      rintro e w' ⟨s3, rfl, hn3, hr, hg⟩
      have hbs : w2.heap.size + 1 ≤ W.heap.size := hG.x6.lt
      refine ⟨hG.picked 3 (by omega) hg (hr.mono (by omega)) (by omega) (by omega) (by omega) HOg.out, fun j v hj h => LinR_keep (fun h => h.kept hg (by omega)) j v h, .inl ⟨rfl, _, rfl, ⟨s3, rfl, hn3⟩⟩⟩
    · have h0 := hd ⟨0, .data⟩ (by simp) rfl
      have t10 : a.tmps[10]?.getD undef = bval v b := by simpa [LinR] using h0
      have h2 := U.other 2 (by decide)
      have t2 : a.tmps[2]?.getD undef = .pointer (some ⟨w.heap.size, 0, none⟩) := by simpa using h2
      obtain ⟨v0, b0, hx0⟩ := hG.x2
      have c2 := hx0.cells
      have f2 := hx0.free
      unfold bcells at c2
      unfold bval bcells at t10
      have hx1 := hx0
      unfold bcells at hx1
      unfold Oper.wp
      simp [go_sem, Act.eval, t2, t10, c2, f2]
      exact ⟨hG.stored (by rw [hLs]; omega) (Nat.le_refl _) (by omega) HOw.out, fun j u hj h => LinR_keep (fun _ => hx1.put v b) j u h, .inr ⟨rfl, hx1.put v b⟩⟩
    · obtain ⟨s3, h3, hn3⟩ := hd ⟨3, .data⟩ (by simp) rfl
      have t13 : a.tmps[13]?.getD undef = .string s3 := by simpa using h3
      unfold Oper.wp
      simp [go_sem, Act.eval, t13]
      exact ⟨hG.step 5 (by omega), fun j v _ h => h, .inl ⟨rfl, _, rfl, ⟨s3, rfl, hn3⟩⟩⟩
end Go.Proofs.YthkpikkjgggimaaGreatDoor
