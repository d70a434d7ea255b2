/-
  The contracts of toMotion, toDoor, toLift, toStop, toCalls, toBuilding. No claim stands here.
-/
import Derived.Test.YtailpiagjemhpaaLift
namespace Go.Proofs.Ytailpiagjemhpaa
open Go.RowKit
set_option linter.unusedVariables false
set_option linter.unusedSimpArgs false

theorem toMotion_any (a s : Int) (w : World) : Calls Try.prog 127 #[.agg #[.int .i64 a, .int .i64 s]] w fun e w' => e = .returned (.agg #[.int .i64 a, .int .i64 s]) ∧ Below w.heap.size w w' := by
  go_enter Try.func127, Try.ntmps127
  go_wp2
  refine bodyPost_ret (v := .agg #[.int .i64 a, .int .i64 s]) (by simp [results, Try.results127, go_sem]) rfl ⟨rfl, ?_⟩
  repeat (first | exact Below.refl _ _ | (refine Below.alloc ?_ (by simp <;> omega) _))
theorem toDoor_any (a s : Int) (w : World) : Calls Try.prog 128 #[.agg #[.int .i64 a, .int .i64 s]] w fun e w' => e = .returned (.agg #[.int .i64 a, .int .i64 s]) ∧ Below w.heap.size w w' := by
  go_enter Try.func128, Try.ntmps128
  go_wp2
  refine bodyPost_ret (v := .agg #[.int .i64 a, .int .i64 s]) (by simp [results, Try.results128, go_sem]) rfl ⟨rfl, ?_⟩
  repeat (first | exact Below.refl _ _ | (refine Below.alloc ?_ (by simp <;> omega) _))
theorem toStop_any (a s : Int) (w : World) : Calls Try.prog 96 #[.agg #[.int .i64 a, .int .i64 s]] w fun e w' => e = .returned (.agg #[.int .i64 a, .int .i64 s]) ∧ Below w.heap.size w w' := by
  go_enter Try.func96, Try.ntmps96
  go_wp2
  refine bodyPost_ret (v := .agg #[.int .i64 a, .int .i64 s]) (by simp [results, Try.results96, go_sem]) rfl ⟨rfl, ?_⟩
  repeat (first | exact Below.refl _ _ | (refine Below.alloc ?_ (by simp <;> omega) _))

/-- A call behind two stores into a box of the caller's own. -/
theorem call_two {w w1 w2 : World} {g0 g1 g o o' : Nat} {B : Nat} {P R O : Array Value} {v v' : Value} (h0 : Bx w1 g0 P) (h1 : Bx w1 g1 R) (h : Bx w1 g O) (n0 : g0 ≠ g) (n1 : g1 ≠ g) (hB : Below B w w1) (hg : B ≤ g)
    (hb : Below ((w1.setCell ⟨g, o, none⟩ v).setCell ⟨g, o', none⟩ v').heap.size ((w1.setCell ⟨g, o, none⟩ v).setCell ⟨g, o', none⟩ v') w2) :
    Bx w2 g0 P ∧ Bx w2 g1 R ∧ Bx w2 g ((O.setIfInBounds o v).setIfInBounds o' v') ∧ Below B w w2 ∧ w1.heap.size ≤ w2.heap.size :=
  ⟨((h0.far _ _ (Ne.symm n0)).far _ _ (Ne.symm n0)).below hb (by have := h0.lt; simpa using this), ((h1.far _ _ (Ne.symm n1)).far _ _ (Ne.symm n1)).below hb (by have := h1.lt; simpa using this),
    ((h.set o v).set o' v').below hb (by have := h.lt; simpa using this), ((hB.setCell (by simpa using hg) v).setCell (by simpa using hg) v').trans (hb.mono (by have := hB.size; have := h.lt; simp; omega)), by have := hb.size; simpa using this⟩
/-- A call behind a store into a box of the caller's own. -/
theorem call_one {w w1 w2 : World} {g0 g1 g o : Nat} {B : Nat} {P R O : Array Value} {v : Value} (h0 : Bx w1 g0 P) (h1 : Bx w1 g1 R) (h : Bx w1 g O) (n0 : g0 ≠ g) (n1 : g1 ≠ g) (hB : Below B w w1) (hg : B ≤ g)
    (hb : Below (w1.setCell ⟨g, o, none⟩ v).heap.size (w1.setCell ⟨g, o, none⟩ v) w2) :
    Bx w2 g0 P ∧ Bx w2 g1 R ∧ Bx w2 g (O.setIfInBounds o v) ∧ Below B w w2 ∧ w1.heap.size ≤ w2.heap.size :=
  ⟨(h0.far _ _ (Ne.symm n0)).below hb (by have := h0.lt; simpa using this), (h1.far _ _ (Ne.symm n1)).below hb (by have := h1.lt; simpa using this),
    (h.set o v).below hb (by have := h.lt; simpa using this), (hB.setCell (by simpa using hg) v).trans (hb.mono (by have := hB.size; have := h.lt; simp; omega)), by have := hb.size; simpa using this⟩

set_option maxHeartbeats 800000 in
theorem toLift_any (a s g h : Int) (w : World) : Calls Try.prog 94 #[.agg #[.int .i64 a, .int .i64 s, .int .i64 g, .int .i64 h]] w fun e w' => e = .returned (.agg #[.int .i64 a, .int .i64 s, .int .i64 g, .int .i64 h]) ∧ Below w.heap.size w w' := by
  go_enter Try.func94, Try.ntmps94
  go_wp2_with fail
  refine (toMotion_any a s _).mono ?_
  rintro e w1 ⟨rfl, hb1⟩
  obtain ⟨x0, x1, x2, b1, s1⟩ := boxes3 hb1
  have HX0 := Lib.hid x0
  have HX1 := Lib.hid x1
  have HX2 := Lib.hid x2
  have HB1 := Lib.hid b1
  have c0 := x0.cells
  have c2 := x2.cells
  have z2 := x2.free
  clear hb1 x0 x1 x2 b1
  go_wp2_with fail
  refine (toDoor_any g h _).mono ?_
  rintro e w2 ⟨rfl, hb2⟩
  obtain ⟨x0, x1, x2, b2, s2⟩ := call_two HX0.out HX1.out HX2.out (by omega) (by omega) HB1.out (by omega) hb2
  have HX1 := Lib.hid x1
  have HX2 := Lib.hid x2
  have HB2 := Lib.hid b2
  have c1 := x1.cells
  have z1 := x1.free
  have c2 := x2.cells
  have z2 := x2.free
  clear c0 hb2 x0 x1 x2 b2
  go_wp2
  refine bodyPost_ret (v := .agg #[.int .i64 a, .int .i64 s, .int .i64 g, .int .i64 h]) (by simp [results, Try.results94, go_sem, c1, c2]) rfl ⟨rfl, ?_⟩
  exact (((((HB2.out.setCell (by simp <;> omega) _).setCell (by simp <;> omega) _).setCell (by simp <;> omega) _).setCell (by simp <;> omega) _).setCell (by simp <;> omega) _).setCell (by simp <;> omega) _

theorem grown_set (w : World) (p : Addr) (v : Value) : w.grownBy (w.setCell p v) (some p.block) :=
  ⟨rfl, rfl, rfl, by simp, fun j hj hne => Below.heap_setCell _ _ _ _ (by intro e; exact hne (by simp [e]))⟩
theorem Ints.far {w : World} {B : Nat} {A : Option Addr} {n : Nat} {f : Nat → Int} (h : Ints w B A n f) (p : Addr) (v : Value) (hp : B ≤ p.block) : Ints (w.setCell p v) B A n f :=
  h.keep fun q hq => World.cell?_setCell_other w p q v (fun e => by subst e; omega)
theorem Bools.far {w : World} {B : Nat} {A : Option Addr} {n : Nat} {f : Nat → Bool} (h : Bools w B A n f) (p : Addr) (v : Value) (hp : B ≤ p.block) : Bools (w.setCell p v) B A n f :=
  h.keep fun q hq => World.cell?_setCell_other w p q v (fun e => by subst e; omega)
theorem Row.far {w : World} {base : Nat} {A : Option Addr} {n c : Nat} {f : Nat → Int} (h : Row w base A n c f) (p : Addr) (v : Value) (hp : p.block < base) : Row (w.setCell p v) base A n c f :=
  h.kept (grown_set w p v) (.inr fun b e => .inl (by cases e; exact hp))
theorem RowB.far {w : World} {base : Nat} {A : Option Addr} {n c : Nat} {f : Nat → Bool} (h : RowB w base A n c f) (p : Addr) (v : Value) (hp : p.block < base) : RowB (w.setCell p v) base A n c f :=
  h.kept (grown_set w p v) (.inr fun b e => .inl (by cases e; exact hp))

/-- Two slices lie in different blocks. -/
def Apart (A U : Option Addr) : Prop := ∀ x y : Addr, A = some x → U = some y → x.block ≠ y.block
theorem Apart.symm {A U : Option Addr} (h : Apart A U) : Apart U A := fun x y hx hy => Ne.symm (h y x hy hx)
/-- A slice lies in a block from base on, below top. -/
def In (base top : Nat) (A : Option Addr) : Prop := ∀ x : Addr, A = some x → base ≤ x.block ∧ x.block < top
theorem In.apart {b1 t1 b2 t2 : Nat} {A U : Option Addr} (h : In b1 t1 A) (h' : In b2 t2 U) (ht : t1 ≤ b2) : Apart A U := fun x y hx hy => by
  have := (h x hx).2; have := (h' y hy).1; omega
theorem In.mono {b1 t1 b2 t2 : Nat} {A : Option Addr} (h : In b1 t1 A) (hb : b2 ≤ b1) (ht : t1 ≤ t2) : In b2 t2 A := fun x hx => by
  have := h x hx; omega
theorem Row.place {w : World} {base : Nat} {A : Option Addr} {n c : Nat} {f : Nat → Int} (h : Row w base A n c f) : In base w.heap.size A := by
  intro x hx
  rcases h.2 with ⟨hv, h0⟩ | ⟨b, cap, cur, hv, _⟩
  · simp only [Value.slice.injEq] at hv; rw [hv.1] at hx; cases hx
  · simp only [Value.slice.injEq] at hv
    rw [hv.1] at hx; cases hx
    have := World.ownsRow.lt h b (by simp [Value.ownBlock, hv.1])
    exact this
theorem RowB.place {w : World} {base : Nat} {A : Option Addr} {n c : Nat} {f : Nat → Bool} (h : RowB w base A n c f) : In base w.heap.size A := by
  intro x hx
  rcases h.2 with ⟨hv, h0⟩ | ⟨b, cap, cur, hv, _⟩
  · simp only [Value.slice.injEq] at hv; rw [hv.1] at hx; cases hx
  · simp only [Value.slice.injEq] at hv
    rw [hv.1] at hx; cases hx
    have := World.ownsRow.lt h b (by simp [Value.ownBlock, hv.1])
    exact this

/-- Calls in memory: three slices of truths of the call's own, in three blocks. -/
structure OwnC (w : World) (base : Nat) (U : Option Addr) (nu cu : Nat) (up : Nat → Bool) (D : Option Addr) (nd cd : Nat) (dn : Nat → Bool) (C : Option Addr) (nc cc : Nat) (car : Nat → Bool) : Prop where
  u : RowB w base U nu cu up
  d : RowB w base D nd cd dn
  c : RowB w base C nc cc car
  ud : Apart U D
  uc : Apart U C
  dc : Apart D C
theorem OwnC.below {w w' : World} {B base : Nat} {U D C : Option Addr} {nu cu nd cd nc cc : Nat} {up dn car : Nat → Bool} (h : OwnC w base U nu cu up D nd cd dn C nc cc car) (hb : Below B w w') (hB : w.heap.size ≤ B) : OwnC w' base U nu cu up D nd cd dn C nc cc car :=
  ⟨h.u.below hb hB, h.d.below hb hB, h.c.below hb hB, h.ud, h.uc, h.dc⟩
theorem OwnC.mono {w : World} {base base' : Nat} {U D C : Option Addr} {nu cu nd cd nc cc : Nat} {up dn car : Nat → Bool} (h : OwnC w base U nu cu up D nd cd dn C nc cc car) (hb : base' ≤ base) : OwnC w base' U nu cu up D nd cd dn C nc cc car :=
  ⟨h.u.mono hb, h.d.mono hb, h.c.mono hb, h.ud, h.uc, h.dc⟩
theorem OwnC.kept {w w' : World} {base : Nat} {row : Option Nat} {U D C : Option Addr} {nu cu nd cd nc cc : Nat} {up dn car : Nat → Bool} (h : OwnC w base U nu cu up D nd cd dn C nc cc car) (hg : w.grownBy w' row) (hne : row = none ∨ ∀ b, row = some b → b < base ∨ w.heap.size ≤ b) : OwnC w' base U nu cu up D nd cd dn C nc cc car :=
  ⟨h.u.kept hg hne, h.d.kept hg hne, h.c.kept hg hne, h.ud, h.uc, h.dc⟩

set_option maxHeartbeats 1600000 in
theorem toCalls_any {w : World} {B : Nat} {U D C : Option Addr} {nu cu nd cd nc cc : Nat} {up dn car : Nat → Bool} (n1 : nu ≤ 17592186044415) (n2 : nd ≤ 17592186044415) (n3 : nc ≤ 17592186044415) (hB : B ≤ w.heap.size)
    (hu : Bools w B U nu up) (hd : Bools w B D nd dn) (hc : Bools w B C nc car) :
    Calls Try.prog 95 #[.agg #[.slice U nu cu, .slice D nd cd, .slice C nc cc]] w fun e w' =>
      ∃ U' cu' D' cd' C' cc', e = .returned (.agg #[.slice U' nu cu', .slice D' nd cd', .slice C' nc cc']) ∧ OwnC w' w.heap.size U' nu cu' up D' nd cd' dn C' nc cc' car ∧ Below w.heap.size w w' := by
  have HU := Lib.hid hu
  have HD := Lib.hid hd
  have HC := Lib.hid hc
  clear hu hd hc
  go_enter Try.func95, Try.ntmps95
  go_wp2_with fail
  refine (toBoolS_any n1 (Nat.le_trans hB (by simp <;> omega)) (((HU.out.alloc hB _).alloc (Nat.le_trans hB (by simp <;> omega)) _).alloc (Nat.le_trans hB (by simp <;> omega)) _)).mono ?_
  rintro e w1 ⟨U', cu', rfl, hr1, hb1⟩
  obtain ⟨x0, x1, x2, b1, s1⟩ := boxes3 hb1
  have HX0 := Lib.hid x0
  have HX1 := Lib.hid x1
  have HX2 := Lib.hid x2
  have HB1 := Lib.hid b1
  have hr1' := hr1.mono (base' := w.heap.size + 3) (by simp <;> omega)
  have HR1 := Lib.hid hr1'
  have hp1 := hr1'.place
  have HP1 := Lib.hid hp1
  have c0 := x0.cells
  have c2 := x2.cells
  have z2 := x2.free
  clear hb1 x0 x1 x2 b1 hr1 hr1' hp1
  go_wp2_with fail
  refine (toBoolS_any n2 (Nat.le_trans hB (by simp <;> omega)) ((HD.out.below (HB1.out.mono hB)).far _ _ (by simp <;> omega))).mono ?_
  rintro e w2 ⟨D', cd', rfl, hr2, hb2⟩
  obtain ⟨x0, x1, x2, b2, s2⟩ := call_one HX0.out HX1.out HX2.out (by omega) (by omega) HB1.out (by omega) hb2
  have HX0 := Lib.hid x0
  have HX1 := Lib.hid x1
  have HX2 := Lib.hid x2
  have HB2 := Lib.hid b2
  have hr2' := hr2.mono (base' := w1.heap.size) (by simp)
  have HR1 := Lib.hid ((HR1.out.far ⟨w.heap.size + 1 + 1, 0, none⟩ (.slice U' nu cu') (by simp)).below hb2 (Nat.le_refl _))
  have HR2 := Lib.hid hr2'
  have hp2 := hr2'.place
  have HP2 := Lib.hid hp2
  have c0 := x0.cells
  have c2 := x2.cells
  have z2 := x2.free
  clear hb2 x0 x1 x2 b2 hr2 hr2' hp2
  go_wp2_with fail
  refine (toBoolS_any n3 (Nat.le_trans hB (by simp <;> omega)) ((HC.out.below (HB2.out.mono hB)).far _ _ (by simp <;> omega))).mono ?_
  rintro e w3 ⟨C', cc', rfl, hr3, hb3⟩
  obtain ⟨x0, x1, x2, b3, s3⟩ := call_one HX0.out HX1.out HX2.out (by omega) (by omega) HB2.out (by omega) hb3
  have HB3 := Lib.hid b3
  have hr3' := hr3.mono (base' := w2.heap.size) (by simp)
  have HR1 := Lib.hid ((HR1.out.far ⟨w.heap.size + 1 + 1, 1, none⟩ (.slice D' nd cd') (by simp)).below hb3 (Nat.le_refl _))
  have HR2 := Lib.hid ((HR2.out.far ⟨w.heap.size + 1 + 1, 1, none⟩ (.slice D' nd cd') (by simp; omega)).below hb3 (Nat.le_refl _))
  have HR3 := Lib.hid hr3'
  have hp3 := hr3'.place
  have HP3 := Lib.hid hp3
  have c1 := x1.cells
  have z1 := x1.free
  have c2 := x2.cells
  have z2 := x2.free
  clear c0 hb3 x0 x1 x2 b3 hr3 hr3' hp3 HX0 HX1 HX2
  go_wp2
  refine bodyPost_ret (v := .agg #[.slice U' nu cu', .slice D' nd cd', .slice C' nc cc']) (by simp [results, Try.results95, go_sem, c1, c2]) rfl ⟨U', cu', D', cd', C', cc', rfl, ?_, ?_⟩
  · refine ⟨?_, ?_, ?_, HP1.out.apart HP2.out (Nat.le_refl _), HP1.out.apart HP3.out s2, HP2.out.apart HP3.out (Nat.le_refl _)⟩
    · exact ((((HR1.out.far _ _ (by simp)).far _ _ (by simp)).far _ _ (by simp)).far _ _ (by simp)).mono (by omega)
    · exact ((((HR2.out.far _ _ (by simp; omega)).far _ _ (by simp; omega)).far _ _ (by simp; omega)).far _ _ (by simp; omega)).mono (by omega)
    · exact ((((HR3.out.far _ _ (by simp; omega)).far _ _ (by simp; omega)).far _ _ (by simp; omega)).far _ _ (by simp; omega)).mono (by omega)
  · exact (((HB3.out.setCell (by simp <;> omega) _).setCell (by simp <;> omega) _).setCell (by simp <;> omega) _).setCell (by simp <;> omega) _
end Go.Proofs.Ytailpiagjemhpaa
