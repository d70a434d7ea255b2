/-
  The box of a building in a law. No claim stands here.
-/
import Derived.Test.YthkpikkjgggimaaGreatDoorBN
import Derived.Test.YthkpikkjgggimaaGreatDoorSame
import Derived.Test.YthkpikkjgggimaaGreatDoorAlive
namespace Go.Proofs.YthkpikkjgggimaaGreatDoor
open Go.RowKit
set_option linter.unusedVariables false
set_option linter.unusedSimpArgs false

/-- Box g of a law holds a building whose slices lie below it; nothing of what was in w has turned. -/
structure LB (w W : World) (g : Nat) (v : Bv) (b : Bld) : Prop where
  x : Bx W g (bcells v b)
  r : ReadB W g v b
  o : Below w.heap.size w W
  le : w.heap.size ≤ g
section
variable {w W W' : World} {g : Nat} {v : Bv} {b : Bld}
theorem LB.lt (L : LB w W g v b) : g < W.heap.size := L.x.lt
theorem LB.read (L : LB w W g v b) : ReadB W W.heap.size v b := L.r.more (Nat.le_of_lt L.lt)
theorem LB.call (L : LB w W g v b) (hb : Below W.heap.size W W') : LB w W' g v b := ⟨L.x.below hb L.x.lt, L.r.below (hb.mono (Nat.le_of_lt L.lt)), L.o.trans (hb.mono L.o.size), L.le⟩
theorem LB.alloc (L : LB w W g v b) (o : Obj) : LB w (W.alloc o) g v b := L.call ((Below.refl _ _).alloc (Nat.le_refl _) o)
theorem LB.drewed (L : LB w W g v b) (hd : Drew W W') : LB w W' g v b := L.call hd.below
theorem LB.drew (L : LB w W g v b) : LB w W.drew g v b := L.call (Below.refl _ _).drew
theorem LB.sets (L : LB w W g v b) (l : List (Addr × Value)) (hl : ∀ q ∈ l, g < q.1.block) : LB w (Go.Proofs.YthkpikkjgggimaaGreatDoor.sets W l) g v b := by
  refine ⟨sets_bx l L.x (fun q hq => Nat.ne_of_gt (hl q hq)), ?_, sets_below _ L.o (fun q hq => Nat.le_of_lt (Nat.lt_of_le_of_lt L.le (hl q hq))), L.le⟩
  exact L.r.below (sets_below _ (Below.refl _ _) (fun q hq => Nat.le_of_lt (hl q hq)))
theorem LB.new (T : TypeId) (r : ReadB W W.heap.size v b) (o : Below w.heap.size w W) : LB w (W.alloc (.cells (bcells v b) T)) W.heap.size v b :=
  ⟨Bx.new W _ T, r.below ((Below.refl _ _).alloc (Nat.le_refl _) _), o.alloc o.size _, o.size⟩
theorem LB.cells (L : LB w W g v b) : ∀ o, W.cell? ⟨g, o, none⟩ = (#[.slice v.A b.n v.c, .int .i64 b.pos, .int .i64 b.sp, .int .i64 b.gap, .int .i64 b.hold, .slice v.U b.nu v.cu, .slice v.D b.nd v.cd, .slice v.C b.nc v.cc, .int .i64 b.fl, .int .i64 b.dir, .bool b.op] : Array Value)[o]? := L.x.cells
end
end Go.Proofs.YthkpikkjgggimaaGreatDoor
