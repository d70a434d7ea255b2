/-
  The contracts of BuildCall, in the program and in the reference. No claim stands here.
-/
import Derived.Test.YthkpikkjgggimaaGreatDoorSetK
namespace Go.Proofs.YthkpikkjgggimaaGreatDoor
open Go.RowKit
set_option linter.unusedVariables false
set_option linter.unusedSimpArgs false

theorem sets_bx {W : World} {g : Nat} {xs : Array Value} (l : List (Addr × Value)) (h : Bx W g xs) (hl : ∀ q ∈ l, q.1.block ≠ g) : Bx (sets W l) g xs := by
  induction l generalizing W with
  | nil => exact h
  | cons q l ih => exact ih (h.far q.1 q.2 (hl q (by simp))) (fun x hx => hl x (by simp [hx]))
theorem Bx.put {W : World} {g : Nat} {a0 a1 a2 a3 a4 a5 a6 a7 a8 a9 a10 : Value} (h : Bx W g #[a0, a1, a2, a3, a4, a5, a6, a7, a8, a9, a10]) (v : Bv) (b : Bld) : Bx (sets W (putL g v b)) g (bcells v b) := by
  have h' := ((((((((((h.set 0 (.slice v.A b.n v.c)).set 1 (.int .i64 b.pos)).set 2 (.int .i64 b.sp)).set 3 (.int .i64 b.gap)).set 4 (.int .i64 b.hold)).set 5 (.slice v.U b.nu v.cu)).set 6 (.slice v.D b.nd v.cd)).set 7 (.slice v.C b.nc v.cc)).set 8 (.int .i64 b.fl)).set 9 (.int .i64 b.dir)).set 10 (.bool b.op)
  simp only [List.setIfInBounds_toArray, List.set_cons_zero, List.set_cons_succ] at h'
  simpa only [sets, putL, List.foldl_cons, List.foldl_nil, bcells] using h'
theorem ownB_set {w : World} {base : Nat} {v : Bv} {b : Bld} {p : Addr} {x : Value} (hp : p.block < base) (h : OwnB w base v b) : OwnB (w.setCell p x) base v b :=
  ⟨h.h.far p x hp, h.k.far p x hp, h.hu, h.hd, h.hc⟩
theorem sets_size (w : World) (l : List (Addr × Value)) : (sets w l).heap.size = w.heap.size := by
  induction l generalizing w with
  | nil => rfl
  | cons q l ih => show (sets (w.setCell q.1 q.2) l).heap.size = _; rw [ih]; simp
theorem sets_grown {w : World} {g : Nat} (l : List (Addr × Value)) (hl : ∀ q ∈ l, q.1.block = g) : w.grownBy (sets w l) (some g) := by
  induction l generalizing w with
  | nil => exact World.grownBy.refl _ _
  | cons q l ih =>
    have h1 := grown_set w q.1 q.2
    rw [hl q (by simp)] at h1
    exact h1.trans (ih (w := w.setCell q.1 q.2) (fun x hx => hl x (by simp [hx])))

/-- No building at all. -/
def Bld.none : Bld := ⟨0, fun _ => 0, 0, 0, 0, 0, 0, fun _ => false, 0, fun _ => false, 0, fun _ => false, 0, 0, false⟩
def Bv.none : Bv := ⟨Option.none, 0, Option.none, 0, Option.none, 0, Option.none, 0⟩
theorem own_none (w : World) (base : Nat) : OwnB w base Bv.none Bld.none :=
  ⟨Row.nil w base _, ⟨RowB.nil w base _, RowB.nil w base _, RowB.nil w base _, (fun x y hx => by cases hx), (fun x y hx => by cases hx), (fun x y hx => by cases hx)⟩, (fun x y hx => by cases hx), (fun x y hx => by cases hx), (fun x y hx => by cases hx)⟩
/-- What BuildCall answers. -/
def Bld.called (b : Bld) (kind fl : Int) : Bld := if b.valid = true then b.ask kind fl else Bld.none
def Bld.calledOk (b : Bld) (kind fl : Int) : Bool := b.valid && b.askOk kind fl
def CallPost (b : Bld) (kind fl : Int) (w : World) (e : Ending) (w' : World) : Prop :=
  ∃ v', e = .returned (.tuple #[bval v' (b.called kind fl), .bool (b.calledOk kind fl)]) ∧ OwnB w' w.heap.size v' (b.called kind fl) ∧ Below w.heap.size w w'
theorem called_no {b : Bld} {kind fl : Int} (h : b.valid = false) : b.called kind fl = Bld.none ∧ b.calledOk kind fl = false := by simp [Bld.called, Bld.calledOk, h]
theorem called_yes {b : Bld} {kind fl : Int} (h : b.valid = true) : b.called kind fl = b.ask kind fl ∧ b.calledOk kind fl = b.askOk kind fl := by simp [Bld.called, Bld.calledOk, h]

set_option maxHeartbeats 6400000 in
theorem impl_BuildCall_no {w : World} {B : Nat} {v : Bv} {b : Bld} (kind fl : Int) (hn : b.Small) (hB : B ≤ w.heap.size) (hr : ReadB w B v b) (hv : b.valid = false) :
    Calls Tryz.prog 51 #[bval v b, .int .i64 kind, .int .i64 fl] w (CallPost b kind fl w) := by
  have HR := Lib.hid hr
  have HSm := Lib.hid hn
  have HV := Lib.hid hv
  have HE := Lib.hid (called_no (kind := kind) (fl := fl) hv)
  obtain ⟨m0, m1, m2, m3⟩ := hn
  clear hr hv
  unfold bval bcells CallPost
  go_enter Tryz.func51, Tryz.ntmps51
  go_wp2_with fail
  refine (impl_BuildValid (v := v) (b := b) HSm.out (Nat.le_trans hB (by simp <;> omega)) ((HR.out.alloc hB _).alloc (Nat.le_trans hB (by simp <;> omega)) _)).mono ?_
  rintro e w1 ⟨rfl, hb1⟩
  obtain ⟨x, y, hbb, hs1⟩ := boxes2' hb1
  have HB1 := Lib.hid hbb
  have c1 := y.cells
  have z1 := y.free
  clear hb1 x y hbb
  rw [HV.out]
  go_wp2
  refine bodyPost_ret (v := .tuple #[bval Bv.none Bld.none, .bool false]) (by simp [bval, bcells, Bv.none, Bld.none, results, Tryz.results51, go_sem, c1]) rfl ⟨Bv.none, by rw [HE.out.1, HE.out.2], ?_, ?_⟩
  · rw [HE.out.1]
    exact own_none _ _
  · repeat (refine below_set (by simp <;> omega) ?_)
    exact HB1.out
set_option maxHeartbeats 6400000 in
theorem spec_BuildCall_no {w : World} {B : Nat} {v : Bv} {b : Bld} (kind fl : Int) (hn : b.Small) (hB : B ≤ w.heap.size) (hr : ReadB w B v b) (hv : b.valid = false) :
    Calls Tryz.prog 61 #[bval v b, .int .i64 kind, .int .i64 fl] w (CallPost b kind fl w) := by
  have HR := Lib.hid hr
  have HSm := Lib.hid hn
  have HV := Lib.hid hv
  have HE := Lib.hid (called_no (kind := kind) (fl := fl) hv)
  obtain ⟨m0, m1, m2, m3⟩ := hn
  clear hr hv
  unfold bval bcells CallPost
  go_enter Tryz.func61, Tryz.ntmps61
  go_wp2_with fail
  refine (spec_BuildValid (v := v) (b := b) HSm.out (Nat.le_trans hB (by simp <;> omega)) ((HR.out.alloc hB _).alloc (Nat.le_trans hB (by simp <;> omega)) _)).mono ?_
  rintro e w1 ⟨rfl, hb1⟩
  obtain ⟨x, y, hbb, hs1⟩ := boxes2' hb1
  have HB1 := Lib.hid hbb
  have c1 := y.cells
  have z1 := y.free
  clear hb1 x y hbb
  rw [HV.out]
  go_wp2
  refine bodyPost_ret (v := .tuple #[bval Bv.none Bld.none, .bool false]) (by simp [bval, bcells, Bv.none, Bld.none, results, Tryz.results61, go_sem, c1]) rfl ⟨Bv.none, by rw [HE.out.1, HE.out.2], ?_, ?_⟩
  · rw [HE.out.1]
    exact own_none _ _
  · repeat (refine below_set (by simp <;> omega) ?_)
    exact HB1.out

theorem own_called {W1 W2 : World} {base : Nat} {v : Bv} {n : Nat} {f : Nat → Int} {pos sp gap hold fl0 dir : Int} {nu nd nc nu' nd' nc' : Nat} {up dn car up' dn' car' : Nat → Bool} {op : Bool} {U' D' C' : Option Addr} {cu' cd' cc' : Nat}
    (h : OwnB W1 base v ⟨n, f, pos, sp, gap, hold, nu, up, nd, dn, nc, car, fl0, dir, op⟩) (hb : Below W1.heap.size W1 W2) (hk : OwnC W2 W1.heap.size U' nu' cu' up' D' nd' cd' dn' C' nc' cc' car') (hbase : base ≤ W1.heap.size) (fl1 dir1 pos1 sp1 gap1 hold1 : Int) (op1 : Bool) :
    OwnB W2 base ⟨v.A, v.c, U', cu', D', cd', C', cc'⟩ ⟨n, f, pos1, sp1, gap1, hold1, nu', up', nd', dn', nc', car', fl1, dir1, op1⟩ :=
  ⟨h.h.below hb (Nat.le_refl _), hk.mono hbase, h.h.place.apart hk.u.place (Nat.le_refl _), h.h.place.apart hk.d.place (Nat.le_refl _), h.h.place.apart hk.c.place (Nat.le_refl _)⟩


/-- Block g is none of those in which the slices of a building lie. -/
structure Off (g : Nat) (v : Bv) : Prop where
  a : ∀ x, v.A = some x → g ≠ x.block
  u : ∀ x, v.U = some x → g ≠ x.block
  d : ∀ x, v.D = some x → g ≠ x.block
  c : ∀ x, v.C = some x → g ≠ x.block
theorem ownB_off {w : World} {base : Nat} {v : Bv} {b : Bld} {p : Addr} {x : Value} (hp : Off p.block v) (h : OwnB w base v b) : OwnB (w.setCell p x) base v b :=
  ⟨h.h.other p x hp.a, ⟨h.k.u.other p x hp.u, h.k.d.other p x hp.d, h.k.c.other p x hp.c, h.k.ud, h.k.uc, h.k.dc⟩, h.hu, h.hd, h.hc⟩
theorem off_called {W : World} {base b1 g nu nd nc : Nat} {v : Bv} {U' D' C' : Option Addr} {cu' cd' cc' : Nat} {up dn car : Nat → Bool} (hA : In b1 g v.A) (hk : OwnC W base U' nu cu' up D' nd cd' dn C' nc cc' car) (hg : g < base) : Off g ⟨v.A, v.c, U', cu', D', cd', C', cc'⟩ :=
  ⟨fun x hx => by have := (hA x hx).2; omega, fun x hx => by have := (hk.u.place x hx).1; omega, fun x hx => by have := (hk.d.place x hx).1; omega, fun x hx => by have := (hk.c.place x hx).1; omega⟩
theorem own_off {W : World} {base g : Nat} {v : Bv} {b : Bld} (h : OwnB W base v b) (hg : g < base ∨ W.heap.size ≤ g) : Off g v :=
  ⟨fun x hx => by have := h.h.place x hx; omega, fun x hx => by have := h.k.u.place x hx; omega, fun x hx => by have := h.k.d.place x hx; omega, fun x hx => by have := h.k.c.place x hx; omega⟩
end Go.Proofs.YthkpikkjgggimaaGreatDoor
